/-
  s: the parts WVar WTerm0 WBld YNText of the proof.
-/
import Derived.Test.YthiadenmljbdaaaGreatDoorB8s
import Derived.Test.YthiadenmljbdaaaGreatDoorB16s
import Derived.Test.YthiadenmljbdaaaGreatDoorB7s
import Derived.Deep.CutRange
import Derived.Test.YthiadenmljbdaaaGreatDoorB12s
import Derived.Test.YthiadenmljbdaaaGreatDoorB3s
import Derived.Test.YthiadenmljbdaaaGreatDoorB2s
section
namespace Go.Proofs.YthiadenmljbdaaaGreatDoor
open Go.RowKit Go.Shelf
attribute [local go_sem] Oper.semAt_some
theorem results_no {fn : Func} (h : fn.results = #[]) (t : Array Value) (w : World) : (results fn t).run Tryz.prog w = .ok (.tuple #[]) w := by
  simp [results, h]
theorem leaves_tmps {fn : Func} (hr : fn.results = #[]) (t t' : Array Value) (R : Ending → World → Prop) : ∀ (ds : List Deferred) (u : FrameMode) (w : World), Leaves Tryz.prog fn t R ds u w → Leaves Tryz.prog fn t' R ds u w
  | [], .returning, w, h => by
    unfold Leaves at h ⊢
    obtain ⟨v, h1, h2⟩ := h
    rw [results_no hr] at h1
    exact ⟨v, by rw [results_no hr]; exact h1, h2⟩
  | [], .panicking _, _, h => by
    unfold Leaves at h ⊢
    exact h
  | [], .run, _, h => by
    unfold Leaves at h
    exact h.elim
  | d :: ds, u, w, h => by
    have ih := leaves_tmps hr t t' R ds
    unfold Leaves at h ⊢
    obtain ⟨hu, fv, cap, f, args, h1, h2, h3⟩ := h
    refine ⟨hu, fv, cap, f, args, h1, h2, h3.mono (fun e u' w' hx => ?_)⟩
    cases e
    all_goals first | exact ih _ _ hx | exact hx
theorem isB_alloc {B b : Nat} {bs : List Value} {w : World} (h : Lib.IsBuilder TW TB B b bs w) (o : Obj) : Lib.IsBuilder TW TB B b bs (w.alloc o) := by
  rcases h with h | h
  · have hl := h.lt
    obtain ⟨hB, v, hbk, hown, hne⟩ := h
    exact .inl ⟨hB, v, (Lib.alloc_old w o b hl).trans hbk, hown.alloc _, hne⟩
  · have hl := h.lt
    obtain ⟨hB, v, hbk, hown, hne⟩ := h
    exact .inr ⟨hB, v, (Lib.alloc_old w o b hl).trans hbk, hown.alloc _, hne⟩
set_option maxHeartbeats 1600000 in
set_option maxRecDepth 100000 in
theorem term_var (B b : Nat) (bs : List Value) (s : ByteArray) (tg : Bool) (w : World) (R : Nat → Prop) (v : Value) (h : T.In w R (.node 2 s [] false [] []) v) (hIs : Lib.IsBuilder TW TB B b bs w) (hlen : bs.length + s.size ≤ 140737488355328) (hBw : B ≤ w.heap.size) :
    Calls Tryz.prog 115 #[.pointer (some ⟨b, 0, none⟩), v, .bool tg] w fun e w' => e = .returned (.tuple #[]) ∧ (Lib.BuilderAt TW TB B b (.pointer (some ⟨b, 0, none⟩)) (bs ++ Lib.strCells s) w' ∧ Below B w w' ∧ Lib.OthersKept TB (some b) w w') := by
  rw [T.In] at h
  obtain ⟨A1, c1, A2, c2, A3, c3, rfl, _⟩ := h
  unfold tv
  simp only [List.length_nil]
  refine calls_of_wp_defers Tryz.func115 rfl ?_
  simp only [Tryz.ntmps115, List.size_toArray, List.length_cons, List.length_nil, Nat.reduceAdd, Nat.reduceSub, Array.replicate_succ, Array.replicate_zero, List.push_toArray, List.append_toArray, List.nil_append, List.cons_append]
  have HP : ∀ (Q : Exit → Act → World → Prop), Q = bodyPostD Tryz.prog Tryz.f115 (fun e w' => e = .returned (.tuple #[]) ∧ (Lib.BuilderAt TW TB B b (.pointer (some ⟨b, 0, none⟩)) (bs ++ Lib.strCells s) w' ∧ Below B w w' ∧ Lib.OthersKept TB (some b) w w')) → ∀ c a d v w, Q (.panic c) (a.put d v) w → Q (.panic c) a w := fun Q hQ c a d v w h => by
    subst hQ
    cases d with
    | none => exact h
    | some x => exact leaves_tmps (by kernel_rfl) (a.put (some x) v).tmps _ _ _ _ _ h
  generalize hQ : bodyPostD Tryz.prog Tryz.f115 _ = Q
  replace HP := HP Q hQ.symm
  have HQ := Lib.hid hQ
  clear hQ
  go_upto_region 14 with (fail)
  obtain ⟨W, hW, ps, hbW⟩ := made_blk w #[.int .i64 2, .string s, .slice A1 0 c1, .bool false, .slice A2 0 c2, .slice A3 0 c3] 28
  obtain ⟨g, hg⟩ : ∃ g, g = w.heap.size := ⟨_, rfl⟩
  have HB : Hid (Lib.IsBuilder TW TB B b bs W) := Lib.hid (hW ▸ isB_alloc hIs _)
  have HK : Hid (Lib.OthersKept TB (some b) w W) := Lib.hid (hW ▸ (Lib.OthersKept.refl TB (some b) w).alloc _)
  have hBW : B ≤ W.heap.size := Nat.le_trans hBw hbW.size
  have HBW := Lib.hid (hbW.mono hBw)
  rw [← hW, ← hg]
  rw [← hg] at ps
  have hgb : g ≠ b := by
    have : b < w.heap.size := by rcases hIs with h' | h' <;> exact h'.lt
    omega
  clear hW hbW hIs hBw hg
  obtain ⟨x0, x1, x2, x3, x4, x5⟩ := ps.six
  refine wp_region_held_drew (S := fun w' => w'.cell? ⟨g, 1, none⟩ = some (.string s)) (by kernel_rfl) (by exact x1) (fun hHeld => ?_)
  refine take_at 0 (by kernel_rfl) (by kernel_rfl) (by kernel_rfl) (fun c a d v w h => HP c a d v w h) ⟨_, rfl⟩ (by assumption) (fun o ho => ?_)
  simp only [List.getElem?_toArray, List.getElem?_cons_zero, Option.some.injEq] at ho
  subst ho
  refine ⟨?_, ⟨by rfl, ?_⟩, ?_⟩
  rotate_left
  · intro w hSw
    (try dsimp only at hSw)
    (go_simp; try with_reducible rfl)
  (try simp only [Act.put, List.setIfInBounds_toArray, List.set_cons_zero, List.set_cons_succ])
  refine take_at 1 (by kernel_rfl) (by kernel_rfl) (by kernel_rfl) (fun c a d v w h => HP c a d v w h) ⟨_, rfl⟩ (by assumption) (fun o ho => ?_)
  simp only [List.getElem?_toArray, List.getElem?_cons_succ, List.getElem?_cons_zero, Option.some.injEq] at ho
  subst ho
  refine ⟨?_, ⟨by rfl, ?_⟩, ?_⟩
  rotate_left
  · intro w hSw
    (try dsimp only at hSw)
    (go_simp; try with_reducible rfl)
  (try simp only [Act.put, List.setIfInBounds_toArray, List.set_cons_zero, List.set_cons_succ])
  refine take_at 2 (by kernel_rfl) (by kernel_rfl) (by kernel_rfl) (fun c a d v w h => HP c a d v w h) ⟨_, rfl⟩ (by assumption) (fun o ho => ?_)
  simp only [List.getElem?_toArray, List.getElem?_cons_succ, List.getElem?_cons_zero, Option.some.injEq] at ho
  subst ho
  refine ⟨?_, ⟨by rfl, ?_⟩, ?_⟩
  rotate_left
  · intro w hSw
    (try dsimp only at hSw)
    (go_simp; try with_reducible rfl)
  (try simp only [Act.put, List.setIfInBounds_toArray, List.set_cons_zero, List.set_cons_succ])
  refine take_at 3 (by kernel_rfl) (by kernel_rfl) (by kernel_rfl) (fun c a d v w h => HP c a d v w h) ⟨_, rfl⟩ (by assumption) (fun o ho => ?_)
  simp only [List.getElem?_toArray, List.getElem?_cons_succ, List.getElem?_cons_zero, Option.some.injEq] at ho
  subst ho
  refine ⟨?_, ⟨by rfl, ?_⟩, ?_⟩
  rotate_left
  · intro w hSw
    (try dsimp only at hSw)
    (go_simp; try with_reducible rfl)
  (try simp only [Act.put, List.setIfInBounds_toArray, List.set_cons_zero, List.set_cons_succ])
  refine take_at 4 (by kernel_rfl) (by kernel_rfl) (by kernel_rfl) (fun c a d v w h => HP c a d v w h) ⟨_, rfl⟩ (by assumption) (fun o ho => ?_)
  simp only [List.getElem?_toArray, List.getElem?_cons_succ, List.getElem?_cons_zero, Option.some.injEq] at ho
  subst ho
  refine ⟨?_, ⟨by rfl, ?_⟩, ?_⟩
  rotate_left
  · intro w hSw
    (try dsimp only at hSw)
    (go_simp; try with_reducible rfl)
  (try simp only [Act.put, List.setIfInBounds_toArray, List.set_cons_zero, List.set_cons_succ])
  refine wpAnyH_ready (rs := [5]) (by kernel_rfl) (by simp) ?_
  refine ready_at 5 ⟨_, rfl⟩ (fun o ho K hK => ?_) AllReadyH.nil
  simp only [List.getElem?_toArray, List.getElem?_cons_succ, List.getElem?_cons_zero, Option.some.injEq] at ho
  subst ho
  go_simp
  go_at_call 78
  refine (wstr_w B b bs s W.drew HB.out hlen hBW).mono ?_
  rintro e w1 ⟨rfl, h1, hb1, hk1⟩
  have pg : Blk w1 g 28 #[.int .i64 2, .string s, .slice A1 0 c1, .bool false, .slice A2 0 c2, .slice A3 0 c3] := hk1 g _ ps (by simpa using hgb) (fun c fz e => by injection e with _ e _; exact absurd e (by decide))
  refine hK.out _ _ ?_ (fun hHeld2 => ?_)
  · obtain ⟨_, y1, _, _, _, _⟩ := pg.six
    exact y1
  replace hHeld := hHeld2
  clear hK K hHeld2
  (try simp only [List.setIfInBounds_toArray, List.set_cons_zero, List.set_cons_succ])
  refine wpAnyH_done (by kernel_rfl) ?_ _
  go_wp2
  rw [← HQ.out]
  exact ⟨_, results_no (by kernel_rfl) _ _, rfl, h1, (HBW.out.drew).trans hb1, (HK.out.drew).trans hk1⟩
end Go.Proofs.YthiadenmljbdaaaGreatDoor
end
section
namespace Go.Proofs.YthiadenmljbdaaaGreatDoor
open Go.RowKit Go.Shelf
def termB (t : T) (tg : Bool) : List UInt8 := P.bytes (if tg = true then P.tight (P.pt t) else P.body t true)
def TermW (t : T) : Prop := ∀ (B b : Nat) (bs : List Value) (tg : Bool) (w : World) (R : Nat → Prop) (v : Value), T.In w R t v → (∀ g, R g → g < B) → Lib.IsBuilder TW TB B b bs w →
    bs.length + (termB t tg).length ≤ 140737488355328 → B ≤ w.heap.size →
    Calls Tryz.prog 115 #[.pointer (some ⟨b, 0, none⟩), v, .bool tg] w fun e w' => e = .returned (.tuple #[]) ∧ (Lib.BuilderAt TW TB B b (.pointer (some ⟨b, 0, none⟩)) (bs ++ Lib.byteCells (termB t tg)) w' ∧ Below B w w' ∧ Lib.OthersKept TB (some b) w w')
theorem T.In.under {w w' : World} {R : Nat → Prop} {t : T} {v : Value} {B : Nat} (h : T.In w R t v) (hR : ∀ g, R g → g < B) (hb : Below B w w') : T.In w' R t v :=
  h.fr (fun b hb' => hb.block b (hR b hb'))
theorem hp_term (R : Ending → World → Prop) : ∀ c a d v w, bodyPostD Tryz.prog Tryz.f115 R (.panic c) (a.put d v) w → bodyPostD Tryz.prog Tryz.f115 R (.panic c) a w := fun c a d v w h => by
  cases d with
  | none => exact h
  | some x => exact leaves_tmps (by kernel_rfl) (a.put (some x) v).tmps _ _ _ _ _ h
theorem term_name (s : ByteArray) : TermW (.node 2 s [] false [] []) := by
  intro B b bs tg w R v h _ hIs hlen hBw
  have e : termB (.node 2 s [] false [] []) tg = s.data.toList := by
    cases tg
    · show P.bytes [P.Nm s] = _
      simp [P.bytes, P.itB]
    · show P.bytes [P.Nm s] = _
      simp [P.bytes, P.itB]
  have e2 : s.data.toList.length = s.size := Array.length_toList
  have e3 : Lib.strCells s = Lib.byteCells s.data.toList := by first | rfl | simp [Lib.strCells, Lib.byteCells]
  rw [e] at hlen ⊢
  rw [← e3]
  exact term_var B b bs s tg w R v h hIs (by omega) hBw
end Go.Proofs.YthiadenmljbdaaaGreatDoor
end
section
namespace Go.Proofs.YthiadenmljbdaaaGreatDoor
open Go.RowKit
open Go.Shelf
attribute [local go_sem] Oper.semAt_some
abbrev TS : TypeId := 77
theorem liesBldS : liesAt Tryz.prog Tryz.prog.depth TS (2 / Tryz.prog.cellsOf TS) 0 77 1 = true := by kernel_rfl
set_option maxHeartbeats 1000000 in
set_option maxRecDepth 100000 in
theorem copyCheck_usedS (b : Nat) (w : World) (h0 : w.cell? ⟨b, 0, none⟩ = some (.pointer (some ⟨b, 0, none⟩))) :
    Calls Tryz.prog 112 #[.pointer (some ⟨b, 0, none⟩)] w fun e w' => e = .returned (.tuple #[]) ∧ w' = w := by
  obtain ⟨j, hj, _⟩ := Option.map_eq_some_iff.1 sizeBld
  go_enter Tryz.func112, Tryz.ntmps112
  go_wp2
  rw [Lib.run_neq_ptr_same w _ Tryz.underlying75 hj]
  go_wp2
  go_end0
  exact ⟨rfl, rfl⟩
set_option maxHeartbeats 1000000 in
set_option maxRecDepth 100000 in
theorem copyCheck_freshS (b : Nat) (w : World) (h0 : w.cell? ⟨b, 0, none⟩ = some (.pointer none)) (hsh : w.shape? b = some (TS, 2)) (hfz : w.frozen? ⟨b, 0, none⟩ = false) :
    Calls Tryz.prog 112 #[.pointer (some ⟨b, 0, none⟩)] w fun e w' => e = .returned (.tuple #[]) ∧ w' = w.setCell ⟨b, 0, none⟩ (.pointer (some ⟨b, 0, none⟩)) := by
  obtain ⟨j, hj, hjs⟩ := Option.map_eq_some_iff.1 sizeBld
  go_enter Tryz.func112, Tryz.ntmps112
  go_wp2
  rw [Lib.run_to_unsafe w ⟨b, 0, none⟩ Tryz.underlying75 Tryz.underlying165 hj (by rw [hjs]; decide) hsh (Nat.zero_lt_succ 1)]
  simp only [Result.andThen]
  rw [Oper.upon_value]
  go_wp2
  rw [run_callFunc_extern Tryz.func145 (by kernel_rfl) (by kernel_rfl) (by kernel_rfl) (e := Extern.AbiNoEscape.same) (by kernel_rfl)]
  rw [Lib.run_noEscape]
  simp only [Result.andThen]
  rw [Oper.upon_value]
  go_wp2
  rw [Lib.run_from_unsafe w ⟨b, 0, none⟩ Tryz.underlying165 Tryz.underlying75 hj hsh liesBldS]
  simp only [Result.andThen]
  rw [Oper.upon_value]
  go_wp2
  go_end0
  exact ⟨rfl, rfl⟩
theorem copyCheck_s (B b : Nat) (bs : List Value) (w : World) (h : Lib.IsBuilder TS TB B b bs w) :
    Calls Tryz.prog 112 #[.pointer (some ⟨b, 0, none⟩)] w fun e w' => e = .returned (.tuple #[]) ∧ (Lib.BuilderAt TS TB B b (.pointer (some ⟨b, 0, none⟩)) bs w' ∧ Below B w w' ∧ Lib.OthersKept TB (some b) w w') := by
  rcases h with h | h
  · refine (copyCheck_freshS b w h.cell0 h.shape h.frozen0).mono ?_
    rintro e w' ⟨rfl, rfl⟩
    exact ⟨rfl, h.used _, (Below.refl B w).setCell (p := ⟨b, 0, none⟩) h.1 _, (Lib.OthersKept.refl _ _ w).setCell ⟨b, 0, none⟩ rfl _⟩
  · refine (copyCheck_usedS b w h.cell0).mono ?_
    rintro e w' ⟨rfl, rfl⟩
    exact ⟨rfl, h, Below.refl B _, Lib.OthersKept.refl _ _ _⟩
set_option maxHeartbeats 2000000 in
set_option maxRecDepth 100000 in
theorem wstr_s (B b : Nat) (bs : List Value) (s : ByteArray) (w : World) (h : Lib.IsBuilder TS TB B b bs w) (hlen : bs.length + s.size ≤ 140737488355328) (hBw : B ≤ w.heap.size) :
    Calls Tryz.prog 78 #[.pointer (some ⟨b, 0, none⟩), .string s] w fun e w' => e = .returned (.tuple #[.int .i64 s.size, .nilIface]) ∧ (Lib.BuilderAt TS TB B b (.pointer (some ⟨b, 0, none⟩)) (bs ++ Lib.strCells s) w' ∧ Below B w w' ∧ Lib.OthersKept TB (some b) w w') := by
  obtain ⟨i0, hi, hz0, hz1, hz2⟩ := info_parts info_byte
  go_enter Tryz.func78, Tryz.ntmps78
  go_wp2_with (go_at_call 112; refine (copyCheck_s B b bs _ h).mono ?_)
  rintro e w1 ⟨rfl, h1, hb1, hk1⟩
  obtain ⟨hB, v, hbk, hown, hne⟩ := h1
  have c0 : w1.cell? ⟨b, 0, none⟩ = some (.pointer (some ⟨b, 0, none⟩)) := by rw [Lib.cell_of_heap hbk]; rfl
  have c1 : w1.cell? ⟨b, 1, none⟩ = some v := by rw [Lib.cell_of_heap hbk]; rfl
  go_wp2_with (at_builtin; refine Lib.wpList_append_own_string _ rfl _ _ 71 9 rfl B TB i0 Tryz.underlying71 Tryz.underlying9 hi hz0 hz1 hz2 _ _ _ rfl hown s rfl ?c3 ?c4 ?c5 ?_)
  case c3 => unfold maxLen; omega
  case c4 => omega
  case c5 => have := hb1.size; omega
  intro v' w2 hown' hgrow _
  have hlt : b < w1.heap.size := by
    rcases Nat.lt_or_ge b w1.heap.size with h' | h'
    · exact h'
    · simp [Array.getElem?_eq_none h'] at hbk
  have hb2 : w2.heap[b]? = some (.cells #[.pointer (some ⟨b, 0, none⟩), v] TS (0, 0)) := by
    rw [hgrow.block b hlt (fun e => hne e.symm)]
    exact hbk
  have d0 : w2.cell? ⟨b, 0, none⟩ = some (.pointer (some ⟨b, 0, none⟩)) := by rw [Lib.cell_of_heap hb2]; rfl
  have d1 : w2.cell? ⟨b, 1, none⟩ = some v := by rw [Lib.cell_of_heap hb2]; rfl
  have f1 : w2.frozen? ⟨b, 1, none⟩ = false := Lib.frozen_of_heap hb2 1
  obtain ⟨ao, n', cap, rfl⟩ : ∃ ao n' cap, v' = .slice ao n' cap := by
    rcases hown'.2 with ⟨hv, _⟩ | ⟨g, cap, cur, hv, _⟩
    · exact ⟨_, _, _, hv⟩
    · exact ⟨_, _, _, hv⟩
  go_wp2
  go_ret2
  refine ⟨rfl, ?_, ?_, (hk1.grown hgrow (own_kind hown)).setCell ⟨b, 1, none⟩ rfl _⟩
  · exact Lib.BuilderAt.put (T := TS) (e := TB) hB hb2 (bs' := bs ++ Lib.strCells s) (by simpa [Lib.strCells_length] using hown') (by decide)
  · exact (hb1.grown hgrow (by have := hb1.size; omega) (fun k hk => (hown.lt k hk).1)).setCell (p := ⟨b, 1, none⟩) hB _
theorem writeString_any (B b : Nat) (bs : List Value) (s : ByteArray) (w : World) (h : Lib.IsBuilder 77 5 B b bs w) (hlen : bs.length + s.size ≤ 140737488355328) (hBw : B ≤ w.heap.size) :
    Calls Tryz.prog 78 #[.pointer (some ⟨b, 0, none⟩), .string s] w fun e w' => e = .returned (.tuple #[.int .i64 s.size, .nilIface]) ∧ Lib.BuilderAt 77 5 B b (.pointer (some ⟨b, 0, none⟩)) (bs ++ Lib.strCells s) w' ∧ Below B w w' :=
  (wstr_s B b bs s w h hlen hBw).mono (fun _ _ h => ⟨h.1, h.2.1, h.2.2.1⟩)
end Go.Proofs.YthiadenmljbdaaaGreatDoor
end
section
namespace Go.Proofs.YthiadenmljbdaaaGreatDoor
open Go.RowKit
set_option maxHeartbeats 400000 in
theorem bare_any (w : World) (A : Option Addr) (n c : Nat) (l : List Nat) (h : Sl w A n c l) (hm : n ≤ 9223372036854775807) :
    Calls Tryz.prog 123 #[.slice A n c] w fun e w' => e = .returned (.slice A (N.ofN (N.nv l)).length (N.ofN (N.nv l)).length) ∧ w = w' := by
  have hcap := h.cap
  go_enter Tryz.func123, Tryz.ntmps123
  go_wp2
  go_step3
  go_wp2
  go_step3
  go_wp2
  go_loop [3] (fun v => ∃ k : Nat, k ≤ n ∧ v = .int .i64 k ∧ ∀ j, k ≤ j → j < n → N.dg l j = 0) (fun v => (intOf v).toNat)
  case atStart => exact ⟨n, Nat.le_refl _, rfl, fun j h1 h2 => by omega⟩
  case round =>
    obtain ⟨k, hk, rfl, hz⟩ := hrel
    have HZ := Lib.hid hz
    clear hz
    by_cases hk0 : k = 0
    · subst hk0
      go_wp2
      go_ret
      have e : (N.ofN (N.nv l)).length = 0 := N.bare_len h.lim (by omega) (fun j h1 h2 => HZ.out j h1 (by rw [h.len] at h2; exact h2)) (.inl rfl)
      rw [e]
      exact ⟨rfl, rfl⟩
    · obtain ⟨b, o, rfl, hc⟩ := h.cells (by omega)
      have hck := hc (k - 1) (by omega)
      clear hc
      go_wp2
      · have ht : ((N.dg l (k - 1) : Int) != 0) = true := by assumption
        go_ret
        have e : (N.ofN (N.nv l)).length = k := N.bare_len h.lim (by rw [h.len]; exact hk) (fun j h1 h2 => HZ.out j h1 (by rw [h.len] at h2; exact h2)) (.inr (by simpa using ht))
        rw [e]
        exact ⟨rfl, rfl⟩
      · have ht : ((N.dg l (k - 1) : Int) != 0) = false := by assumption
        go_round
        case rel =>
          refine ⟨k - 1, by omega, by go_num, fun j h1 h2 => ?_⟩
          rcases Nat.lt_or_ge j k with h3 | h3
          · obtain rfl : j = k - 1 := by omega
            simpa using ht
          · exact HZ.out j h3 h2
        case measure => simp [intOf]; omega
set_option maxHeartbeats 400000 in
theorem own_any (w : World) (A : Option Addr) (n c : Nat) (l : List Nat) (h : Sl w A n c l) (hm : n ≤ 35184372088832) :
    Calls Tryz.prog 173 #[.slice A n c] w fun e w' => ∃ g n' c', e = .returned (.slice (some ⟨g, 0, none⟩) n' c') ∧ Own w' w.heap.size g n' c' (N.ofN (N.nv l)) ∧ Below w.heap.size w w' := by
  go_enter Tryz.func173, Tryz.ntmps173
  obtain ⟨i0, hi, hz0, hz1, hz2⟩ := info_parts info_u32
  have hb := h.bare
  have hle := N.nv_len_le h.lim
  have hlen := h.len
  have hB : Below w.heap.size w (w.alloc (.cells #[] 69)) := (Below.refl _ _).alloc (Nat.le_refl _) _
  have hs1 := h.below hB
  have hown : Own (w.alloc (.cells #[] 69)) w.heap.size w.heap.size 0 0 [] := Own.empty w
  have hn1 := (hb.below hB).news
  have HL := Lib.hid hlen
  clear hlen
  have hm1 : 0 + (N.ofN (N.nv l)).length ≤ 35184372088832 := by have := HL.out; omega
  go_wp2_with (first
    | (go_at_call 123; refine (bare_any _ A n c l hs1 (by omega)).mono ?_; rintro e w' ⟨rfl, rfl⟩)
    | (at_builtin; refine wpList_append_lim _ rfl (.tmp 3) (.tmp 5) 23 rfl w.heap.size i0 Tryz.underlying23 hi hz0 hz1 hz2 _ _ _ _ rfl hown _ _ _ (N.ofN (N.nv l)) rfl rfl (N.lim_ofN _) hn1 hm1 (by simp) _ (Nat.zero_add _) _ (List.nil_append _) ?_; intro g cap w1 hown' hgrow))
  have hb1 : Below w.heap.size w _ := hB.grown (by assumption) (by simp) (by intro k hk; simp at hk; omega)
  go_ret
  exact ⟨_, _, _, rfl, by assumption, hb1⟩
theorem or_join (r x : Nat) (hr : r < 4294967296) (hx : x < 4294967296) : bits .or .u64 ((r : Int) * 4294967296) (x : Int) = ((r * 4294967296 + x : Nat) : Int) := by
  rw [show (r : Int) * 4294967296 = ((r * 4294967296 : Nat) : Int) from by omega, u64_or_nat _ _ (by omega) (by omega), nat_join 32 _ _ (by simp only [Nat.reducePow]; omega) (by simp only [Nat.reducePow]; omega)]
theorem quo_lt {r x b : Nat} (hr : r < b) (hx : x < 4294967296) : (r * 4294967296 + x) / b < 4294967296 := by
  rw [Nat.div_lt_iff_lt_mul (by omega)]
  have h3 : (r + 1) * 4294967296 ≤ b * 4294967296 := Nat.mul_le_mul_right _ hr
  omega
set_option maxHeartbeats 800000 in
theorem short_any (w : World) (A : Option Addr) (n c : Nat) (a : List Nat) (b : Nat) (ha : Sl w A n c a) (hn : n ≤ 35184372088832) (hb0 : 0 < b) (hb : b < 4294967296) :
    Calls Tryz.prog 166 #[.slice A n c, .int .u32 b] w fun e w' => ∃ g n' c', e = .returned (.tuple #[.slice (some ⟨g, 0, none⟩) n' c', .int .u32 (N.nv a % b : Nat)]) ∧ Own w' w.heap.size g n' c' (N.ofN (N.nv a / b)) ∧ Below w.heap.size w w' := by
  obtain ⟨i0, hi, hz0, hz1, hz2⟩ := info_parts info_u32
  have hlen := ha.len
  have hlim := ha.lim
  go_enter Tryz.func166, Tryz.ntmps166
  have HL := Lib.hid hlen
  clear hlen
  go_wp2_with (at_make; refine wpList_make_lim _ rfl (.tmp 10) (.tmp 10) 23 rfl i0 Tryz.underlying23 hi hz0 hz1 hz2 .i64 .i64 _ _ n rfl rfl (by omega) (by omega) (by omega) ?_; intro w1 ho1 hb1)
  go_loopw [7, 8] (fun v7 v8 wr => Below w.heap.size w wr ∧ ((v8 = .int .i64 (-1) ∧ v7 = .int .u64 (N.nv a % b : Nat) ∧ Own wr w.heap.size w.heap.size n n (N.divQ b a)) ∨
      ∃ j : Nat, j < n ∧ v8 = .int .i64 j ∧ v7 = .int .u64 (N.nv (a.drop (j + 1)) % b : Nat) ∧ Own wr w.heap.size w.heap.size n n (N.divS b a (j + 1)))) (fun _ v8 _ => (intOf v8 + 1).toNat)
  case atStart =>
    refine ⟨by assumption, ?_⟩
    have ho := ‹Own _ w.heap.size w.heap.size n n (List.replicate n 0)›
    by_cases h0 : n = 0
    · subst h0
      have : a = [] := List.eq_nil_of_length_eq_zero HL.out
      subst this
      exact .inl ⟨rfl, rfl, ho⟩
    · refine .inr ⟨n - 1, by omega, by go_num, ?_, ?_⟩
      · rw [show n - 1 + 1 = a.length from by have := HL.out; omega, List.drop_length]; rfl
      · rw [show n - 1 + 1 = a.length from by have := HL.out; omega, N.divS_none, HL.out]; exact ho
  case round =>
    obtain ⟨hbw, hrel⟩ := hrel
    rcases hrel with ⟨rfl, rfl, hown⟩ | ⟨j, hj, rfl, rfl, hown⟩
    · have hr := Nat.mod_lt (N.nv a) hb0
      go_wp2_with (go_at_call 173; refine (own_any _ _ _ _ _ hown.sl (by omega)).mono ?_; rintro e w5 ⟨g5, n5, c5, rfl, ho5, hb5⟩)
      go_ret2
      rw [N.divQ_nv hb0] at ho5
      exact ⟨g5, n5, c5, rfl, ho5.mono hbw.size, hbw.trans (hb5.mono hbw.size)⟩
    · have hr := Nat.mod_lt (N.nv (a.drop (j + 1))) hb0
      obtain ⟨bx, ox, rfl, hcx⟩ := (ha.below hbw).cells (by omega)
      have hc1 := hcx j hj
      have hx := N.dg_lt hlim j
      clear hcx
      have hc3 := hown.cell j hj
      have hf3 := hown.free j
      have hmod := N.divQ_mod b (N.dg a j) (a.drop (j + 1))
      have HM := Lib.hid hmod
      clear hmod
      have hstep := N.divS_step b a j (by have := HL.out; omega)
      have hds : a.drop j = N.dg a j :: a.drop (j + 1) := by rw [List.drop_eq_getElem_cons (by have := HL.out; omega), N.dg_get a j (by have := HL.out; omega)]
      have HS := Lib.hid hstep
      have HD := Lib.hid hds
      clear hstep hds
      generalize N.nv (a.drop (j + 1)) % b = r at *
      generalize N.dg a j = x at *
      have hor := or_join r x (by omega) hx
      have hql := quo_lt hr hx
      generalize r * 4294967296 + x = y at *
      have hq1 : (y : Int) / (b : Int) ≤ 4294967295 := by rw [← Int.natCast_ediv]; omega
      have hq0 : 0 ≤ (y : Int) / (b : Int) := by rw [← Int.natCast_ediv]; exact Int.natCast_nonneg _
      have hb1 : 1 ≤ (b : Int) := by omega
      go_wp2_with fail
      go_roundw
      case rel =>
        have hnew := hown.set' j (y / b) hql _ (Int.natCast_ediv y b).symm
        rw [HS.out] at hnew
        refine ⟨hbw.setCell (Nat.le_refl _) _, ?_⟩
        by_cases hj0 : j = 0
        · subst hj0
          refine .inl ⟨rfl, ?_, ?_⟩
          · have e := HM.out
            rw [← HD.out, List.drop_zero] at e
            rw [← e]; go_num
          · rw [← N.divS_all]; exact hnew
        · refine .inr ⟨j - 1, by omega, by go_num, ?_, ?_⟩
          · rw [show j - 1 + 1 = j from by omega]
            have e := HM.out
            rw [← HD.out] at e
            rw [← e]; go_num
          · rw [show j - 1 + 1 = j from by omega]; exact hnew
      case measure => simp [intOf]
theorem info_str : (Tryz.prog.info? 9).map (fun i => (i.zero, i.size, i.bytes)) = some (some (.string ByteArray.empty), 1, 16) := by kernel_rfl
def sv (l : List UInt8) : Value := .string ⟨l.toArray⟩
def chunk (n j : Nat) : List UInt8 := N.pad 9 (n / 10 ^ (9 * j))
def chunks (n k : Nat) : List Value := (List.range k).map fun j => sv (chunk n j)
theorem chunks_succ (n k : Nat) : chunks n (k + 1) = chunks n k ++ [sv (chunk n k)] := by simp [chunks, List.range_succ]
theorem chunks_get (n k j : Nat) (h : j < k) : (chunks n k)[j]? = some (sv (chunk n j)) := by simp [chunks, h]
theorem ret_s {a b : List UInt8} (h : a = b) : Ending.returned (.string ⟨a.toArray⟩) = .returned (.string ⟨b.toArray⟩) := by rw [h]
theorem trim_pad {k n : Nat} (h0 : 0 < n) (h : n < 10 ^ k) : Lib.trimLeftB (N.pad k n) 48 = N.txt n := by
  obtain ⟨z, hz⟩ := N.pad_txt k n h0 h
  rw [hz]
  have h1 := N.txt_head h0
  clear hz
  induction z with
  | zero =>
    simp only [List.replicate_zero, List.nil_append, Lib.trimLeftB]
    cases hx : N.txt n with
    | nil => rfl
    | cons c l =>
      rw [hx] at h1
      have : (c == 48) = false := by simpa using h1
      rw [List.dropWhile_cons, this]; rfl
  | succ z ih => rw [List.replicate_succ, List.cons_append, Lib.trimLeftB, List.dropWhile_cons]; exact ih
theorem pad_mod (k n : Nat) : N.pad k (n % 10 ^ k) = N.pad k n := by
  induction k generalizing n with
  | zero => rfl
  | succ k ih =>
    have e1 : n % 10 ^ (k + 1) / 10 = n / 10 % 10 ^ k := by rw [Nat.pow_succ, Nat.mul_comm, Nat.mod_mul_right_div_self]
    have e2 : N.digc (n % 10 ^ (k + 1)) = N.digc n := by
      unfold N.digc
      rw [Nat.pow_succ, Nat.mod_mul_left_mod]
    rw [N.pad, N.pad, e1, e2, ih]
theorem text_bound {n L k : Nat} (h : n < 4294967296 ^ L) (h0 : 0 < n / 10 ^ (9 * k)) : k ≤ 2 * L := by
  rcases Nat.lt_or_ge (2 * L) k with h1 | h1
  · have h2 : 4294967296 ^ L = 65536 ^ (2 * L) := by rw [Nat.pow_mul]
    have h3 : 65536 ^ (2 * L) ≤ 65536 ^ k := Nat.pow_le_pow_right (by omega) (by omega)
    have h4 : 65536 ^ k ≤ 1000000000 ^ k := Nat.pow_le_pow_left (by omega) k
    have h5 : 10 ^ (9 * k) = 1000000000 ^ k := by rw [Nat.pow_mul]
    rw [Nat.div_eq_of_lt (by rw [h5]; omega)] at h0
    omega
  · exact h1
theorem enc_digit (x : Nat) : Utf8.encode (48 + (x : Int) % 10) = ⟨#[N.digc x]⟩ := by
  have e : (48 + (x : Int) % 10) = ((48 + x % 10 : Nat) : Int) := by omega
  have hv : Utf8.valid ((48 + x % 10 : Nat) : Int) = true := by
    simp only [Utf8.valid]
    simp
    omega
  rw [e]
  unfold Utf8.encode
  simp only [hv, if_true, Int.toNat_natCast]
  rw [if_pos (by omega)]
  rfl
theorem pad_front (j r : Nat) : N.pad (j + 1) r = N.digc (r / 10 ^ j) :: N.pad j r := by
  rw [Nat.add_comm, N.pad_add]; simp [N.pad]
theorem add_digit (j r x : Nat) (h : r / 10 ^ j = x) : Value.string (Utf8.encode (48 + (x : Int) % 10) ++ ⟨(N.pad j r).toArray⟩) = sv (N.pad (j + 1) r) := by
  rw [enc_digit, pad_front, h]
  rfl
set_option maxRecDepth 100000 in
set_option maxHeartbeats 2000000 in
theorem text_pos (w : World) (A : Option Addr) (n c : Nat) (a : List Nat) (ha : Sl w A n c a) (hn : n ≤ 1099511627776) (h0 : 0 < N.nv a) :
    Calls Tryz.prog 147 #[.slice A n c] w fun e w' => e = .returned (.string ⟨(N.txt (N.nv a)).toArray⟩) ∧ Below w.heap.size w w' := by
  obtain ⟨i0, hi, iz0, iz1, iz2⟩ := info_parts info_str
  have hA := ha.bare
  have hla := N.nv_len_le ha.lim
  rw [ha.len] at hla
  have hnv := N.nv_lt ha.lim
  rw [ha.len] at hnv
  generalize hN : N.nv a = M at *
  have HN := Lib.hid hN
  clear hN
  go_enter Tryz.func147, Tryz.ntmps147
  go_wp2_with fail
  refine (bare_any _ A n c a ha (by omega)).mono ?_
  rintro e w' ⟨rfl, rfl⟩
  rw [HN.out]
  go_wp2_with fail
  go_loopg [3, 4] M (fun gk v3 v4 wr => ∃ (k : Nat) (B : Option Addr) (m d : Nat), gk = M / 10 ^ (9 * k) ∧ v4 = .slice B m d ∧ Sl wr B m d (N.ofN gk) ∧ wr.ownsRow w.heap.size 9 1 v3 k (chunks M k) ∧ Below w.heap.size w wr ∧ m ≤ n ∧ k ≤ 2 * n + 1)
  case atStart => exact ⟨0, _, _, _, by simp, rfl, hA, World.ownsRow_nil _ _ _ _, Below.refl _ _, hla, by omega⟩
  case round =>
    obtain ⟨G, rfl⟩ : ∃ G : Nat, G = gk := ⟨_, rfl⟩
    obtain ⟨k, B, m, d, hgk, rfl, hsl, hown, hbw, hmn, hkn⟩ := hrel
    have HGK := Lib.hid hgk
    clear hgk
    have hlen := hsl.len
    have HLen := Lib.hid hlen
    clear hlen
    by_cases hg0 : G = 0
    · subst hg0
      have hm0 : m = 0 := by have := HLen.out; simpa [N.ofN_zero] using this.symm
      subst hm0
      have hk0 : 0 < k := by
        rcases Nat.eq_zero_or_pos k with h | h
        · subst h; have := HGK.out; simp at this; omega
        · exact h
      rcases hown.2 with ⟨_, h⟩ | ⟨gp, capp, curp, rfl, hgb, hheap, hkc, hcm, hcs, htk⟩
      · omega
      clear hgb hheap hkc hcm hcs htk
      have hgp := hown.lt gp rfl
      have hMk : M < 10 ^ (9 * k) := by
        have h3 := HGK.out
        rcases Nat.lt_or_ge M (10 ^ (9 * k)) with h | h
        · exact h
        · have := Nat.div_pos h (Nat.pow_pos (by omega)); omega
      have t0 : ((k : Int) == 0) = false := by simp; omega
      have HM := Lib.hid hMk
      clear hMk
      go_wp2_with fail
      obtain ⟨W0, rfl⟩ : ∃ W0 : World, W0 = wr := ⟨_, rfl⟩
      have hz0 := hbw.size
      go_loopw [9] (fun v9 wr => ∃ r : Nat, r ≤ k ∧ ((r = 0 ∧ v9 = .int .i64 (-1)) ∨ ∃ j : Nat, r = j + 1 ∧ v9 = .int .i64 j) ∧ Lib.IsBuilder 77 5 W0.heap.size W0.heap.size (Lib.byteCells (N.pad (9 * (k - r)) (M / 10 ^ (9 * r)))) wr ∧ Below W0.heap.size W0 wr) (fun v9 _ => (intOf v9 + 1).toNat)
      case atStart => exact ⟨k, Nat.le_refl _, .inr ⟨k - 1, by omega, by go_num⟩, by rw [Nat.sub_self]; exact Lib.fresh_isBuilder _ _ _, (Below.refl _ _).alloc (Nat.le_refl _) _⟩
      case round =>
        obtain ⟨r, hrk, hcase, hbu, hbb⟩ := hrel
        have HBU := Lib.hid hbu
        clear hbu
        rcases hcase with ⟨rfl, rfl⟩ | ⟨j, rfl, rfl⟩
        · go_wp2_with fail
          have hbu := HBU.out
          rw [show M / 10 ^ (9 * 0) = M from by simp] at hbu
          refine (Go.Proofs.Tryz.Builder_String_any W0.heap.size W0.heap.size _ _ hbu hbb.size).mono ?_
          rintro e w5 ⟨rfl, hb5⟩
          go_wp2_with fail
          refine (Go.Proofs.Tryz.strings_TrimLeft_one _ 48 (by decide) _).mono ?_
          rintro e w6 ⟨rfl, rfl⟩
          go_wp2_with fail
          go_ret
          exact ⟨ret_s (trim_pad h0 HM.out), hbw.trans ((hbb.trans hb5).mono hz0)⟩
        · have hcj : W0.cell? ⟨gp, j, none⟩ = some (sv (chunk M j)) := by rw [hown.cellAt j (by omega), chunks_get _ _ _ (by omega)]
          have hcj' := (hbb.cell (p := ⟨gp, j, none⟩) hgp.2).trans hcj
          unfold sv at hcj'
          have hlen1 : (Lib.byteCells (N.pad (9 * (k - (j + 1))) (M / 10 ^ (9 * (j + 1))))).length ≤ 9 * k := by simp [Lib.byteCells, N.pad_length]; omega
          have hlen2 : (⟨(chunk M j).toArray⟩ : ByteArray).size = 9 := by show (chunk M j).toArray.size = 9; simp [chunk, N.pad_length]
          have HL2 := Lib.hid hlen2
          clear hlen2
          go_wp2_with fail
          refine (writeString_any W0.heap.size W0.heap.size _ ⟨(chunk M j).toArray⟩ _ HBU.out (by rw [HL2.out]; omega) hbb.size).mono ?_
          rintro e w5 ⟨rfl, hbu5, hb5⟩
          go_wp2_with fail
          go_roundw
          case rel =>
            refine ⟨j, by omega, ?_, .inr ?_, hbb.trans hb5⟩
            · by_cases hj0 : j = 0
              · subst hj0; exact .inl ⟨rfl, rfl⟩
              · exact .inr ⟨j - 1, by omega, by go_num⟩
            · have e : Lib.byteCells (N.pad (9 * (k - j)) (M / 10 ^ (9 * j))) = Lib.byteCells (N.pad (9 * (k - (j + 1))) (M / 10 ^ (9 * (j + 1)))) ++ Lib.strCells ⟨(chunk M j).toArray⟩ := by
                rw [show 9 * (k - j) = 9 * (k - (j + 1)) + 9 from by omega, N.pad_add, Nat.div_div_eq_div_mul, ← Nat.pow_add, show 9 * j + 9 = 9 * (j + 1) from by omega]
                simp [Lib.byteCells, Lib.strCells, chunk]
              rw [e]; exact hbu5
          case measure => simp [intOf]
    · have hm0 : 0 < m := by
        rcases Nat.eq_zero_or_pos m with h | h
        · have h2 := HLen.out
          rw [h] at h2
          have h3 := List.eq_nil_of_length_eq_zero h2
          rw [N.ofN_eq_nil] at h3; omega
        · exact h
      have hvg := N.nv_ofN G
      have HVG := Lib.hid hvg
      clear hvg
      go_wp2_with fail
      refine (short_any _ B m d (N.ofN G) 1000000000 hsl (by omega) (by omega) (by omega)).mono ?_
      rintro e w1 ⟨g1, n1, c1, rfl, ho1, hb1⟩
      rw [HVG.out] at ho1 ⊢
      have hr := Nat.mod_lt G (show 0 < 1000000000 by omega)
      obtain ⟨r, hrd⟩ : ∃ r, r = G % 1000000000 := ⟨_, rfl⟩
      rw [← hrd] at hr ⊢
      have HR := Lib.hid hrd.symm
      clear hrd
      obtain ⟨wo, rfl⟩ : ∃ wo : World, wo = wr := ⟨_, rfl⟩
      go_wp2_with fail
      go_loopg [6, 7, 20] 9 (fun gj v6 v7 v20 wr => ∃ j : Nat, gj + j = 9 ∧ v20 = .int .i64 (j : Nat) ∧ v6 = .int .u32 (r / 10 ^ j : Nat) ∧ v7 = sv (N.pad j r) ∧ w1 = wr)
      case atStart => exact ⟨0, rfl, rfl, by simp, rfl, rfl⟩
      case round =>
        obtain ⟨j, hj, rfl, rfl, rfl, rfl⟩ := hrel
        by_cases hj9 : j < 9
        · have hx : r / 10 ^ j < 1000000000 := Nat.lt_of_le_of_lt (Nat.div_le_self _ _) hr
          generalize hxe : r / 10 ^ j = x at *
          have HX := Lib.hid hxe
          clear hxe
          unfold sv
          go_wp2_with fail
          · exfalso
            have h : 9223372036854775807 < (Utf8.encode (48 + (x : Int) % 10)).size + (N.pad j r).length := by assumption
            rw [enc_digit, N.pad_length] at h
            have h2 : (⟨#[N.digc x]⟩ : ByteArray).size = 1 := rfl
            omega
          go_roundg (gk - 1)
          case measure => omega
          case rel =>
            refine ⟨j + 1, by omega, by go_num, ?_, add_digit j r x HX.out, rfl⟩
            have e : r / 10 ^ (j + 1) = x / 10 := by rw [← HX.out, Nat.div_div_eq_div_mul, Nat.pow_succ]
            rw [e]; go_num
        · obtain rfl : j = 9 := by omega
          unfold sv
          have hown1 := (hown.kept (gb_of_below hb1 none) (by cases hv : u3.ownBlock <;> simp)).alloc (.cells #[Value.string ⟨(N.pad 9 r).toArray⟩] 9)
          have hz1 := hbw.size
          have hz2 := hb1.size
          have hkb : k ≤ 2 * n := text_bound hnv (by have := HGK.out; omega)
          go_wp2_with (at_builtin; refine wpList_append_src _ rfl (.tmp 32) (.tmp 34) 22 rfl w.heap.size 9 i0 (.string ByteArray.empty) 1 16 Tryz.underlying22 hi iz0 iz1 iz2 rfl (by decide) _ k _ rfl hown1 _ 1 1 [Value.string ⟨(N.pad 9 r).toArray⟩] rfl rfl ?d1 ?d2 ?d3 ?d4 ?d5 ?_)
          case d1 =>
            intro _
            refine ⟨_, rfl, fun j u hu => ?_⟩
            rw [Addr.add_lit, cell_of_row _ _ _ _ _ _ (heap_alloc_new w1 _)]
            simpa using hu
          case d2 => intro u hu; simp at hu; subst hu; rfl
          case d3 => unfold maxLen; omega
          case d4 => omega
          case d5 => simp; omega
          intro v' w2 hown2 hgr2 _
          have hown3 : w2.ownsRow w.heap.size 9 1 v' (k + 1) (chunks M (k + 1)) := by
            have e : sv (chunk M k) = Value.string ⟨(N.pad 9 r).toArray⟩ := by
              unfold chunk
              rw [← HGK.out, sv, ← HR.out, pad_mod]
            rw [chunks_succ, e]; exact hown2
          have hb2 : Below w.heap.size w w2 := ((hbw.trans (hb1.mono hz1)).alloc (by omega) _).grown hgr2 (by simp; omega) (fun k hk => (hown1.lt k hk).1)
          have hg1 := ho1.base_le
          have ho2 := ho1.below ((Below.refl _ _).alloc (Nat.le_refl _) (.cells #[Value.string ⟨(N.pad 9 r).toArray⟩] 9))
          go_wp2_with fail
          have hnext : M / 10 ^ (9 * (k + 1)) = G / 1000000000 := by
            rw [HGK.out, Nat.div_div_eq_div_mul, show 9 * (k + 1) = 9 * k + 9 from by omega, Nat.pow_add]
          go_roundg (M / 10 ^ (9 * (k + 1)))
          case measure => rw [hnext]; omega
          case rel =>
            rw [hnext]
            have hn1 : n1 ≤ n := by
              have h3 := ho1.len
              have h4 := N.ofN_length_mono (Nat.div_le_self G 1000000000)
              have h5 := HLen.out
              omega
            have ho3 : Own w2 wo.heap.size g1 n1 c1 (N.ofN (G / 1000000000)) := by
              refine ⟨ho2.own.kept hgr2 (.inr ?_), ho2.lim, ho2.full.block (hgr2.block g1 ho2.base_le.2 ?_)⟩
              all_goals
                intro e
                have := hown.lt g1 (by first | (rw [← e]; rfl) | rw [← e])
                omega
            exact ⟨k + 1, _, _, _, hnext.symm, rfl, ho3.sl, hown3, hb2, hn1, by omega⟩
set_option maxRecDepth 100000 in
set_option maxHeartbeats 400000 in
theorem text_zero (w : World) (A : Option Addr) (n c : Nat) (a : List Nat) (ha : Sl w A n c a) (hn : n ≤ 1099511627776) (h0 : N.nv a = 0) :
    Calls Tryz.prog 147 #[.slice A n c] w fun e w' => e = .returned (.string ⟨(N.txt (N.nv a)).toArray⟩) ∧ Below w.heap.size w w' := by
  have hlen : (N.ofN (N.nv a)).length = 0 := by rw [h0]; rfl
  have htx : N.txt (N.nv a) = [48] := by rw [h0]; rfl
  rw [htx]
  go_enter Tryz.func147, Tryz.ntmps147
  have HL := Lib.hid hlen
  clear hlen htx h0
  go_wp2_with fail
  refine (bare_any _ A n c a ha (by omega)).mono ?_
  rintro e w' ⟨rfl, rfl⟩
  rw [HL.out]
  go_wp2_with fail
  refine wp_loop_rounds 1 ?_
  rw [rounds_succ]
  go_wp2_with fail
  go_ret
  exact ⟨rfl, Below.refl _ _⟩
theorem text_any (w : World) (A : Option Addr) (n c : Nat) (a : List Nat) (ha : Sl w A n c a) (hn : n ≤ 1099511627776) :
    Calls Tryz.prog 147 #[.slice A n c] w fun e w' => e = .returned (.string ⟨(N.txt (N.nv a)).toArray⟩) ∧ Below w.heap.size w w' := by
  rcases Nat.eq_zero_or_pos (N.nv a) with h | h
  · exact text_zero w A n c a ha hn h
  · exact text_pos w A n c a ha hn h
end Go.Proofs.YthiadenmljbdaaaGreatDoor
end
