/-
  riddlelaw03.over: contract.
-/
import Derived.Test.YtkioaogpmifgeaaDoorLexX
import Derived.Test.YtkioaogpmifgeaaDoorLexTokens
import Derived.Test.YtkioaogpmifgeaaDoorLexU
namespace Go.Proofs.YtkioaogpmifgeaaDoor
open Go.RowKit Go.Shelf
attribute [local go_sem] Oper.semAt_some

/-- 'append(out, x)', run. -/
theorem run_append_tok {P : Program} (w : World) (t u : TypeId)
    (base : Nat) (i : TypeInfo) (ht : P.underlying t = some (.slice 44)) (hi : P.info? 44 = some i) (hz : i.zero = some (.agg #[.int .i64 0, .string ⟨#[]⟩, .bool false, .slice none 0 0, .int .i64 0])) (hsize : i.size = 5) (hby : i.bytes = 64)
    (v : Value) (rs : List Tk) (hown : OutT w base v rs)
    (g c : Nat) (r : Tk) (hc : ∀ j u, (tk r)[j]? = some u → w.cell? ⟨g, j, none⟩ = some u) (h1 : r.2.2.1.oneCell' = true)
    (hb : rs.length < 1048576) (hbase : base ≤ w.heap.size) :
    ∃ g' cap w', (Builtin.append_ #[t, t] u #[v, .slice (some ⟨g, 0, none⟩) 1 c]).run P w = .ok (.slice (some ⟨g', 0, none⟩) (rs.length + 1) cap) w' ∧ OutT w' base (.slice (some ⟨g', 0, none⟩) (rs.length + 1) cap) (rs ++ [r]) ∧ w.grownBy w' v.ownBlock ∧ (v.ownBlock = some g' ∨ w.heap.size ≤ g') := by
  have hone := tk_one h1
  have hnews : ∀ j u, (tk r)[j]? = some u → w.cell? ((⟨g, 0, none⟩ : Addr).add j) = some u := fun j u hu => by rw [Addr.add_lit, Nat.zero_add]; exact hc j u hu
  have hzc : ∀ k, (Builtin.zeroCells (Value.cells (.agg #[.int .i64 0, .string ⟨#[]⟩, .bool false, .slice none 0 0, .int .i64 0])) k).toList = zs k := fun k => rfl
  rcases hown with ⟨rfl, rfl⟩ | ⟨g0, cap, cur, rfl, a1, a2, a3, a4, a5⟩
  · have hrn := run_append_nil (P := P) (w := w) t u 44 i _ ht hi hz ⟨g, 0, none⟩ 1 c (tk r) (by rw [hsize]; rfl) hnews (by omega) (by omega) (by rw [hby]; omega)
    refine ⟨_, _, _, hrn, .inr ⟨_, _, _, rfl, hbase, heap_alloc_new w.drew _, grownCap_ge w 1 0 _, grownCap_le_maxLen w 1 0 _ (by unfold maxLen; omega), ?_⟩, ⟨rfl, rfl, rfl, by simp, fun k hk _ => heap_alloc_old w.drew _ hk⟩, .inr (Nat.le_refl _)⟩
    rw [Array.toList_append, hzc]
    simp [tcs]
  · by_cases hroom : rs.length + 1 ≤ cap
    · have hcs := OutT.size (w := w) a5 a3 a2
      have hrn := run_append_room (P := P) w t u 44 i ht hi g0 rs.length cap cur a2 ⟨g, 0, none⟩ 1 c (tk r) (by rw [hsize]; rfl) hnews hone hroom (by rw [hsize, hcs, show (tk r).length = 5 from rfl]; omega)
      refine ⟨g0, cap, _, hrn, .inr ⟨g0, cap, _, by rw [List.length_append]; rfl, a1, setRow_heap _ _ _ _ _ _ a2, by rw [List.length_append]; exact hroom, a4, ?_⟩, ⟨rfl, rfl, rfl, by simp, fun k hk hne => setRow_other w g0 k _ (fun e => hne (by simp [Value.ownBlock, e]))⟩, .inl rfl⟩
      rw [List.toList_toArray, a5, hsize, show (tk r).length = 5 from rfl, List.take_append_of_le_length (by rw [tcs_length]; omega), List.take_of_length_le (by rw [tcs_length]; omega), List.drop_append, tcs_append]
      rw [List.drop_of_length_le (by rw [tcs_length]; omega), tcs_length, show rs.length * 5 + 5 - rs.length * 5 = 5 by omega, List.nil_append]
      obtain ⟨k, hk⟩ : ∃ k, cap - rs.length = k + 1 := ⟨cap - rs.length - 1, by omega⟩
      rw [hk, zs_drop, List.length_append, show cap - (rs.length + [r].length) = k by simp; omega]
      simp [tcs]
    · have hcl : ∀ j u, (tcs rs)[j]? = some u → w.cell? ((⟨g0, 0, none⟩ : Addr).add j) = some u := fun j u hu => by
        have hj := (List.getElem?_eq_some_iff.1 hu).1
        rw [Addr.add_lit, Nat.zero_add, cell_of_row _ _ _ _ _ _ a2, ← Array.getElem?_toList, a5, List.getElem?_append_left hj, hu]
      have hrn := run_append_grow (P := P) (w := w) t u 44 i _ ht hi hz ⟨g0, 0, none⟩ rs.length cap (tcs rs) (by rw [hsize, tcs_length]) hcl ⟨g, 0, none⟩ 1 c (tk r) (by rw [hsize]; rfl) hnews (by omega) (by omega) (by rw [hby]; exact growslice_fits (by omega) (by omega))
      refine ⟨_, _, _, hrn, .inr ⟨_, _, _, by rw [List.length_append]; rfl, hbase, heap_alloc_new w.drew _, by rw [List.length_append]; exact grownCap_ge w (rs.length + 1) cap _, grownCap_le_maxLen w (rs.length + 1) cap _ (by unfold maxLen; omega), ?_⟩, ⟨rfl, rfl, rfl, by simp, fun k hk _ => heap_alloc_old w.drew _ hk⟩, .inr (Nat.le_refl _)⟩
      rw [Array.toList_append, Array.toList_append, hzc, tcs_append, List.length_append]
      simp [tcs]
/-- The same in a fence. -/
theorem wpListIn_append_tok {F : Fence} {n : Nat} {P : Program} (w : World) {ops : Array Oper} {rest : List Oper} {o : Oper} {a : Act} {Q : Exit → Act → World → Prop} (hgd : o.guard = none) (s x : Operand) (t : TypeId)
    (ho : o.op = .call { callee := .builtin .append, args := #[s, x], argTypes := #[t, t] })
    (base : Nat) (i : TypeInfo) (ht : P.underlying t = some (.slice 44)) (hi : P.info? 44 = some i) (hz : i.zero = some (.agg #[.int .i64 0, .string ⟨#[]⟩, .bool false, .slice none 0 0, .int .i64 0])) (hsize : i.size = 5) (hby : i.bytes = 64)
    (v : Value) (rs : List Tk) (hs : a.eval s = v) (hown : OutT w base v rs)
    (g c : Nat) (r : Tk) (hx : a.eval x = .slice (some ⟨g, 0, none⟩) 1 c) (hc : ∀ j u, (tk r)[j]? = some u → w.cell? ⟨g, j, none⟩ = some u) (h1 : r.2.2.1.oneCell' = true)
    (hb : rs.length < 1048576) (hbase : base ≤ w.heap.size)
    (h : ∀ g' cap w', OutT w' base (.slice (some ⟨g', 0, none⟩) (rs.length + 1) cap) (rs ++ [r]) → w.grownBy w' v.ownBlock → (v.ownBlock = some g' ∨ w.heap.size ≤ g') → wpListIn F n P ops Q rest (a.put o.dst (.slice (some ⟨g', 0, none⟩) (rs.length + 1) cap)) w') : wpListIn F n P ops Q (o :: rest) a w := by
  refine wpListIn_plain hgd fun K hK => ?_
  obtain ⟨g', cap', w', hrun, k1, k2, k3⟩ := run_append_tok (P := P) w t o.type base i ht hi hz hsize hby v rs hown g c r hc h1 hb hbase
  unfold Oper.wpIn
  refine ⟨?_, ?_⟩
  · simp [Oper.about, ho, resolve, Target.leads, Sem.run_pure]
  · rw [Oper.semAt_plain F _ _ (by rw [ho]; intro c hc'; cases hc')]
    simp [execOp, ho, resolve, invoke, builtin, hs, hx, hrun, Result.andThen]
    exact hK _ _ (h g' cap' w' k1 k2 k3)
theorem AbB.blk {B b : Nat} {u u' : World} {t : TypeId} {cs : Array Value} (h : AbB B u u') (hp : Blk u b t cs) (ht : t ≠ 25) : Blk u' b t cs := by
  refine Fr.blk h hp ?_
  rintro (⟨_, cs', hcs⟩ | ⟨_, o, ho, hc⟩)
  · have e := (show u.heap[b]? = _ from hp).symm.trans hcs
    injection e with e
    injection e with _ e _
    exact ht e
  · have e := (show u.heap[b]? = _ from hp).symm.trans ho
    injection e with e
    subst e
    cases hc
theorem OutT.abB {B base : Nat} {u u' : World} {v : Value} {rs : List Tk} (h : OutT u base v rs) (hab : AbB B u u') : OutT u' base v rs := by
  rcases h with h | ⟨g, cap, cur, e, h1, h2, h3⟩
  · exact .inl h
  · exact .inr ⟨g, cap, cur, e, h1, hab.blk h2 (by decide), h3⟩
theorem MagOf.abB {B base : Nat} {u u' : World} {m : Value} {k : Nat} {l : List UInt8} (h : MagOf base u m k l) (hab : AbB B u u') : MagOf base u' m k l :=
  h.fr hab (fun g cur hg => by
    rintro (⟨_, cs', hcs⟩ | ⟨_, o, ho, hc⟩)
    · have e := hg.symm.trans hcs
      injection e with e
      injection e with _ e _
      exact absurd e (by decide)
    · have e := hg.symm.trans ho
      injection e with e
      subst e
      cases hc)
theorem AbB.below {B B' : Nat} {u0 u u' : World} (hb : Below B' u0 u) (hab : AbB B u u') (hle : B' ≤ B) (hs : B' ≤ u.heap.size) : Below B' u0 u' :=
  ⟨hab.os.trans hb.os, hab.tape.trans hb.tape, hab.output.trans hb.output, Nat.le_trans hb.size hab.size, fun b hlt => (hab.block b (by omega) (fun h => by rcases h with h | h <;> have := h.1 <;> omega)).trans (hb.block b hlt)⟩
/-- What a body does that writes into blocks of other kinds. -/
theorem km_fr {B : Nat} {W W' : World} {x : Nat → Prop} (h : Fr W W' x) (hx : ∀ b, x b → b < W.heap.size → ∃ t cs, Blk W b t cs ∧ t ≠ 25) : KeepsFrom B W W' ∧ Km W W' := by
  refine ⟨⟨h.size, fun k o _ hk ho => (h.block k (Array.getElem?_eq_some_iff.1 hk).1 (fun e => ?_)).trans hk⟩, ⟨h.os, h.tape, h.output, h.size⟩, fun b cs hb => h.blk hb (fun e => ?_)⟩
  · obtain ⟨t, cs, hb, _⟩ := hx k e (Array.getElem?_eq_some_iff.1 hk).1
    have e := hk.symm.trans hb
    injection e with e
    subst e
    cases ho
  · obtain ⟨t, cs', hb', ht⟩ := hx b e hb.lt
    have e := (show W.heap[b]? = _ from hb').symm.trans hb
    injection e with e
    injection e with _ e _
    exact ht e
theorem X.tokens_le (l : List UInt8) : (X.tokens l).1.length ≤ 4096 := by
  unfold X.tokens
  split
  · simp
  · have := X.lexF_len l (l.length + 1 - 0) 0; unfold X.lex; omega
theorem Nx.word {l : List UInt8} {pre : List Tq} {x : Tq} (h : Nx l pre x) : ∃ p, (X.tokens l).1.take (pre.length + 1) = (X.tokens l).1.take pre.length ++ [p] ∧ x.1 = p.1 ∧ x.2.2.2 = p.2.1 ∧ x.2.1.data.toList = (l.drop p.2.1).take p.2.2 := by
  obtain ⟨hlt, _, hm⟩ := h
  have hk := hm pre.length (by rw [List.length_take]; omega)
  refine ⟨(X.tokens l).1.getD pre.length (0, 0, 0), ?_, ?_⟩
  · rw [List.take_succ_eq_append_getElem hlt]
    simp [List.getD, hlt]
  · have e1 : (pre ++ [x]).getD pre.length (0, ⟨#[]⟩, (none, 0, 0), 0) = x := by simp [List.getD]
    have e2 : ((X.tokens l).1.take (pre.length + 1)).getD pre.length (0, 0, 0) = (X.tokens l).1.getD pre.length (0, 0, 0) := by simp [List.getD]
    rw [e1, e2] at hk
    exact ⟨hk.1, hk.2.2, hk.2.1⟩
def tqk (x : Tq) : Tk := (x.1, x.2.1, .slice x.2.2.1.1 x.2.2.1.2.1 x.2.2.1.2.2, x.2.2.2)
def ovr (ts : List (Nat × Nat × Nat)) (z : Int) : List (Nat × Nat × Nat) := if z < 0 then ts else ts.take z.toNat
def OvB (w : World) (S : ByteArray) (z : Int) (pre : List Tq) (W : World) : Prop := ∃ v rs, rs = pre.map tqk ∧ Blk W (w.heap.size + 1) 28 #[v] ∧ Blk W w.heap.size 3 #[.int .i64 z] ∧ OutT W w.heap.size v rs ∧ Toks W 0 S.data.toList rs ((X.tokens S.data.toList).1.take pre.length) ∧ Below w.heap.size w W
theorem OvB.abB {w : World} {S : ByteArray} {z : Int} {B : Nat} {pre : List Tq} {u u' : World} (h : OvB w S z pre u) (hab : AbB B u u') (hB : w.heap.size ≤ B) : OvB w S z pre u' := by
  obtain ⟨v, rs, h0, h1, h2, h3, h4, h5⟩ := h
  exact ⟨v, rs, h0, hab.blk h1 (by decide), hab.blk h2 (by decide), h3.abB hab, h4.mags (fun _ _ _ hm => hm.abB hab), AbB.below h5 hab hB h5.size⟩
def OvA (w : World) (S : ByteArray) (z : Int) (x : Tq) (a' : Act) (W : World) : Prop := ∃ Bt, Blk W Bt 44 #[.int .i64 (x.1 : Nat), .string x.2.1, .bool false, .slice x.2.2.1.1 x.2.2.1.2.1 x.2.2.1.2.2, .int .i64 (x.2.2.2 : Nat)] ∧ MagOf 0 W (.slice x.2.2.1.1 x.2.2.1.2.1 x.2.2.1.2.2) x.1 x.2.1.data.toList ∧
  a' = { tmps := #[.string S, .int .i64 z, undef, .pointer (some ⟨w.heap.size, 0, none⟩), .slice none 0 0, .pointer (some ⟨w.heap.size + 1, 0, none⟩), .pointer (some ⟨Bt, 0, none⟩), .int .i64 z, .bool false, undef, .string S, .func (.func 25) #[] #[.pointer (some ⟨w.heap.size + 2, 0, none⟩)], .agg #[.int .i64 (x.1 : Nat), .string x.2.1, .bool false, .slice x.2.2.1.1 x.2.2.1.2.1 x.2.2.1.2.2, .int .i64 (x.2.2.2 : Nat)], undef, undef, undef, undef, undef, undef, undef, undef, undef], defers := [] }
theorem put_fr (W : World) (l : Nat) (o : Obj) : Fr W (W.putObj l o) (fun b => b = l) := (Fr.refl W _).grown (grownBy_putObj' W l o) (fun k e => .inl (by cases e; rfl))
theorem fr_cell {W W' : World} {l b : Nat} {o : Obj} {t : TypeId} {cs : Array Value} (h : Fr W W' (fun b => b = l)) (hl : W.heap[l]? = some o) (ho : o.isCells = false) (hb : Blk W b t cs) : Blk W' b t cs := h.blk hb (fun e => by
  subst e
  have e := hl.symm.trans hb
  injection e with e
  subst e
  cases ho)
set_option maxRecDepth 100000 in
set_option maxHeartbeats 4000000 in
theorem over_in (n : Nat) (w : World) (S : ByteArray) (z : Int) :
    CallsIn Fence.wide n Tryd.prog 16 #[.string S, .int .i64 z] w fun e w' => ∃ v rs, e = .returned v ∧ OutT w' w.heap.size v rs ∧ Toks w' 0 S.data.toList rs (ovr (X.tokens S.data.toList).1 z) ∧ Below w.heap.size w w' := by
  obtain ⟨i0, hi, iz0, iz1, iz2⟩ := info_parts info_tok
  refine callsIn_of_wp_marks Tryd.func16 rfl trivial ?_ rfl
  simp only [Tryd.ntmps16, List.size_toArray, List.length_cons, List.length_nil, Nat.reduceAdd, Nat.reduceSub, Array.replicate_succ, Array.replicate_zero, List.push_toArray, List.append_toArray, List.nil_append, List.cons_append]
  by_cases h0 : z = 0
  · subst h0
    gi_wp2
    refine ⟨_, results_tmp rfl _ _ _, _, [], rfl, OutT.nil _ _, ?_, below_on (below_alloc1 _ _) (below_alloc1 _ _)⟩
    simp [ovr]
    exact Toks.nil _ _ _
  · have d0 : (z == 0) = false := by simp; omega
    have b0 := Blk.new w 3 #[.int .i64 z]
    have b1 := Blk.new (w.alloc (.cells #[.int .i64 z] 3)) 28 #[.slice none 0 0]
    have b2 := Blk.new ((w.alloc (.cells #[.int .i64 z] 3)).alloc (.cells #[.slice none 0 0] 28)) 9 #[.string S]
    simp only [World.size_alloc] at b1 b2
    have hb1 := below_alloc1 (w.alloc (.cells #[.int .i64 z] 3)) (.cells #[.slice none 0 0] 28)
    have hb2 := below_alloc1 ((w.alloc (.cells #[.int .i64 z] 3)).alloc (.cells #[.slice none 0 0] 28)) (.cells #[.string S] 9)
    replace b0 := (b0.below hb1).below hb2
    replace b1 := b1.below hb2
    have hbw := below_on (below_on (below_alloc1 w (.cells #[.int .i64 z] 3)) hb1) hb2
    clear hb1 hb2
    gi_wp2_with (refine ⟨trivial, fun h => (by cases h), ?_⟩; gi_at_call 13; refine (callsIn_wide.2 (words_x _ S)).mono ?_; rintro e w2 ⟨rfl, rfl⟩)
    obtain ⟨W0, hW0⟩ : ∃ W0, ((w.alloc (.cells #[.int .i64 z] 3)).alloc (.cells #[.slice none 0 0] 28)).alloc (.cells #[.string S] 9) = W0 := ⟨_, rfl⟩
    rw [hW0] at b0 b1 b2 hbw ⊢
    have hsz : W0.heap.size = w.heap.size + 3 := by rw [← hW0]; simp
    clear hW0
    refine range_words (Bs := w.heap.size + 2) (S := S) rfl b2 rfl
      (fun pre W => OvB w S z pre W ∧ ¬ (0 ≤ z ∧ z ≤ pre.length)) (fun c pre W => c = .exit 0 ∧ OvB w S z pre W ∧ z = pre.length)
      (fun s u u' h hab => ⟨h.1.abB hab (by omega), h.2⟩) (fun c s u u' h hab => ⟨h.1, h.2.1.abB hab (by omega), h.2.2⟩)
      ⟨⟨_, [], rfl, b1, b0, OutT.nil _ _, by simpa using Toks.nil _ _ _, hbw⟩, by simp; omega⟩
      (OvA w S z) ?_ ?assign ?body ?done ?stop
    · rintro x a' u l o o' ⟨Bt, h1, h2, h3⟩ hl ho
      have hf := put_fr u l o'
      exact ⟨Bt, fr_cell hf hl ho h1, h2.fr hf (fun g cur hg e => by
        subst e
        have e := hl.symm.trans hg
        injection e with e
        subst e
        cases ho), h3⟩
    case assign =>
      rintro m l pre x W K ⟨hov, hnz⟩ ⟨bs, hmag⟩ hK
      have hb := below_alloc1 W (.cells #[.int .i64 (x.1 : Nat), .string x.2.1, .bool false, .slice x.2.2.1.1 x.2.2.1.2.1 x.2.2.1.2.2, .int .i64 (x.2.2.2 : Nat)] 44)
      have hfr := (Fr.refl W (fun _ => False)).below hb
      obtain ⟨hk1, hk2⟩ := km_fr (B := W0.heap.size) hfr (fun b h => h.elim)
      obtain ⟨v, rs, hrs, p1, p0, hown, htk, hbw'⟩ := hov
      have hA : OvA w S z x _ (W.alloc (.cells #[.int .i64 (x.1 : Nat), .string x.2.1, .bool false, .slice x.2.2.1.1 x.2.2.1.2.1 x.2.2.1.2.2, .int .i64 (x.2.2.2 : Nat)] 44)) := ⟨W.heap.size, Blk.new _ _ _, (hmag.le (Nat.zero_le _)).below hb, rfl⟩
      have hov' : OvB w S z pre (W.alloc (.cells #[.int .i64 (x.1 : Nat), .string x.2.1, .bool false, .slice x.2.2.1.1 x.2.2.1.2.1 x.2.2.1.2.2, .int .i64 (x.2.2.2 : Nat)] 44)) := ⟨v, rs, hrs, p1.below hb, p0.below hb, hown.below hb, htk.below hb, below_on hbw' hb⟩
      simp only [tq]
      gi_wp2
      exact hK _ _ hk1 hk2 ⟨hov', hnz⟩ hA
    case body =>
      rintro m l pre x a' W hl hrec ⟨⟨v, rs, hrs, p1, p0, hown, htk, hbw'⟩, hnz⟩ ⟨Bt, hBt, hmag, rfl⟩ hnx
      obtain ⟨p, hp1, hp2, hp3, hp4⟩ := hnx.word
      have hlt := hnx.1
      have hlen := htk.1
      have hpl : rs.length = pre.length := by rw [hrs, List.length_map]
      have htn : (X.tokens S.data.toList).1.length ≤ 4096 := X.tokens_le _
      have htk' := htk.snoc (r := tqk x) hp2 hp3 hp4 hmag
      rw [← hp1] at htk'
      obtain ⟨A0, c0, rfl⟩ := hown.slice
      have hoff := hown.off p1 (by decide)
      have hoff0 := hown.off p0 (by decide)
      obtain ⟨_, c20, c21, c22, c23, c24⟩ := hBt.facts
      have cB := p1.cell 0
      have cN := p0.cell 0
      simp only [List.getElem?_toArray, List.getElem?_cons_zero] at cB cN
      have hbase := hbw'.size
      have hrb : rs.length < 1048576 := by omega
      have hpost : ∀ (g' cap : Nat) (w3 : World) (cs : Array Value), OutT w3 w.heap.size (.slice (some ⟨g', 0, none⟩) (rs.length + 1) cap) (rs ++ [tqk x]) → (W.alloc (.cells cs 44)).grownBy w3 (Value.slice A0 rs.length c0).ownBlock → Blk w3 (w.heap.size + 1) 28 #[.slice A0 rs.length c0] → Blk w3 w.heap.size 3 #[.int .i64 z] →
          KeepsFrom W0.heap.size W (w3.setCell ⟨w.heap.size + 1, 0, none⟩ (.slice (some ⟨g', 0, none⟩) (rs.length + 1) cap)) ∧ Km W (w3.setCell ⟨w.heap.size + 1, 0, none⟩ (.slice (some ⟨g', 0, none⟩) (rs.length + 1) cap)) ∧ OvB w S z (pre ++ [x]) (w3.setCell ⟨w.heap.size + 1, 0, none⟩ (.slice (some ⟨g', 0, none⟩) (rs.length + 1) cap)) := fun g' cap w3 cs ho3 hg3 hB3 hN3 => by
        have hfr : Fr W (w3.setCell ⟨w.heap.size + 1, 0, none⟩ (.slice (some ⟨g', 0, none⟩) (rs.length + 1) cap)) (fun b => b = w.heap.size + 1 ∨ (Value.slice A0 rs.length c0).ownBlock = some b) :=
          Fr.set (Fr.grown ((Fr.refl W _).below (below_alloc1 _ _)) hg3 (fun q hq => .inl (.inr hq))) (.inl (.inl rfl)) 0 _
        have hx : ∀ b, (b = w.heap.size + 1 ∨ (Value.slice A0 rs.length c0).ownBlock = some b) → b < W.heap.size → ∃ t cs, Blk W b t cs ∧ t ≠ 25 ∧ t ≠ 54 := by
          rintro b (rfl | hb) _
          · exact ⟨_, _, p1, by decide, by decide⟩
          · rcases hown with ⟨e, _⟩ | ⟨g, cap, cur, e, _, h2, _⟩
            · rw [e] at hb; cases hb
            · rw [e] at hb
              obtain rfl : g = b := by simpa [Value.ownBlock] using hb
              exact ⟨_, _, h2, by decide, by decide⟩
        obtain ⟨k1, k2⟩ := km_fr (B := W0.heap.size) hfr (fun b hb hlt => by obtain ⟨t, cs, h1, h2, _⟩ := hx b hb hlt; exact ⟨t, cs, h1, h2⟩)
        have hne : g' ≠ w.heap.size + 1 := fun e => ho3.off hB3 (by decide) (by rw [e]; rfl)
        refine ⟨k1, k2, _, rs ++ [tqk x], by rw [List.map_append, hrs]; rfl, hB3.put 0 _, hN3.far (by omega) _ _, ho3.kept (gb_set (World.grownBy.refl _ _) 0 _) (.inr (fun e => hne (by injection e))), ?_, ?_⟩
        · rw [List.length_append]
          refine htk'.mags (fun mm k t hm => hm.fr hfr (fun g cur hg e => ?_))
          obtain ⟨t, cs, h1, _, h3⟩ := hx g e (Array.getElem?_eq_some_iff.1 hg).1
          have e2 := (show W.heap[g]? = _ from h1).symm.trans hg
          injection e2 with e2
          injection e2 with _ e2 _
          exact h3 e2
        · refine ⟨hfr.os.trans hbw'.os, hfr.tape.trans hbw'.tape, hfr.output.trans hbw'.output, Nat.le_trans hbw'.size hfr.size, fun b hlt => (hfr.block b (by omega) ?_).trans (hbw'.block b hlt)⟩
          rintro (rfl | hb)
          · omega
          · have := (hown.base hb).1; omega
      have HPOST := Lib.hid hpost
      have HPL := Lib.hid hpl
      have HRS := Lib.hid hrs
      clear hpl hlen hrs
      clear hpost htk' htk hp1 hp2 hp3 hp4 hnx hmag
      by_cases hc : (rs.length : Int) + 1 = z
      · have t1 : ((rs.length : Int) + 1 == z) = true := by simp; omega
        have t2 : (((rs.length + 1 : Nat) : Int) == z) = true := by simp; omega
        gi_wp2_with (gi_at_builtin; refine wpListIn_append_tok _ rfl (.tmp 13) (.tmp 15) 28 rfl w.heap.size i0 Tryd.underlying28 hi iz0 iz1 iz2 _ rs rfl (hown.below (below_alloc1 _ _)) _ 1 (tqk x) rfl (tk_cells (Blk.new _ _ _)) rfl hrb (by simp; omega) ?_; intro g' cap w3 ho3 hg3 hor; have hB3 := gb_blk (p1.below (below_alloc1 _ _)) hg3 (Ne.symm hoff); have hN3 := gb_blk (p0.below (below_alloc1 _ _)) hg3 (Ne.symm hoff0); have cB3 := hB3.cell 0; have fB3 := hB3.free 0; have cN3 := hN3.cell 0; simp only [List.getElem?_toArray, List.getElem?_cons_zero] at cB3 cN3; clear cB cN)
        obtain ⟨k1, k2, k3⟩ := HPOST.out _ _ _ _ ho3 hg3 hB3 hN3
        exact ⟨k1, k2, rfl, k3, by rw [List.length_append, ← hc, HPL.out]; rfl⟩
      · have t1 : ((rs.length : Int) + 1 == z) = false := by simp; omega
        have t2 : (((rs.length + 1 : Nat) : Int) == z) = false := by simp; omega
        gi_wp2_with (gi_at_builtin; refine wpListIn_append_tok _ rfl (.tmp 13) (.tmp 15) 28 rfl w.heap.size i0 Tryd.underlying28 hi iz0 iz1 iz2 _ rs rfl (hown.below (below_alloc1 _ _)) _ 1 (tqk x) rfl (tk_cells (Blk.new _ _ _)) rfl hrb (by simp; omega) ?_; intro g' cap w3 ho3 hg3 hor; have hB3 := gb_blk (p1.below (below_alloc1 _ _)) hg3 (Ne.symm hoff); have hN3 := gb_blk (p0.below (below_alloc1 _ _)) hg3 (Ne.symm hoff0); have cB3 := hB3.cell 0; have fB3 := hB3.free 0; have cN3 := hN3.cell 0; simp only [List.getElem?_toArray, List.getElem?_cons_zero] at cB3 cN3; clear cB cN)
        obtain ⟨k1, k2, k3⟩ := HPOST.out _ _ _ _ ho3 hg3 hB3 hN3
        exact ⟨k1, k2, k3, by rw [List.length_append, ← HPL.out]; simp; have := HPL.out; omega⟩
    case done =>
      rintro D xs W hD hMt ⟨⟨v, rs, hrs, p1, p0, hown, htk, hbw'⟩, hnz⟩ hK
      clear hrs
      obtain ⟨A0, c0, rfl⟩ := hown.slice
      have cB := p1.cell 0
      simp only [List.getElem?_toArray, List.getElem?_cons_zero] at cB
      have hab := abB_put W (.deferred none) (Nat.le_trans (by omega : w.heap.size ≤ W0.heap.size) hD) hK rfl
      have hov : ovr (X.tokens S.data.toList).1 z = (X.tokens S.data.toList).1.take xs.length := by
        rw [hMt.1, List.take_of_length_le (Nat.le_refl _)]
        unfold ovr
        split
        · rfl
        · rw [List.take_of_length_le (by have := hMt.1; omega)]
      gi_wp2
      refine ⟨by simp, .inl ⟨_, _, rfl, run_takeDeferred hK, ?_⟩⟩
      exact ⟨_, results_tmp rfl _ _ _, .slice A0 rs.length c0, rs, rfl, hown.abB hab, by rw [hov]; exact htk.mags (fun _ _ _ hm => hm.abB hab), AbB.below hbw' hab (Nat.le_refl _) hbw'.size⟩
    case stop =>
      rintro D c pre W hD hMt ⟨rfl, ⟨v, rs, hrs, p1, p0, hown, htk, hbw'⟩, hnz⟩ hK
      clear hrs
      obtain ⟨A0, c0, rfl⟩ := hown.slice
      have cB := p1.cell 0
      simp only [List.getElem?_toArray, List.getElem?_cons_zero] at cB
      have hab := abB_put W (.deferred none) (Nat.le_trans (by omega : w.heap.size ≤ W0.heap.size) hD) hK rfl
      have hov : ovr (X.tokens S.data.toList).1 z = (X.tokens S.data.toList).1.take pre.length := by
        unfold ovr
        rw [if_neg (by omega), hnz]
        rfl
      gi_wp2
      refine ⟨by simp, .inl ⟨_, _, rfl, run_takeDeferred hK, ?_⟩⟩
      exact ⟨_, results_tmp rfl _ _ _, .slice A0 rs.length c0, rs, rfl, hown.abB hab, by rw [hov]; exact htk.mags (fun _ _ _ hm => hm.abB hab), AbB.below hbw' hab (Nat.le_refl _) hbw'.size⟩
theorem over_x (w : World) (S : ByteArray) (z : Int) :
    Calls Tryd.prog 16 #[.string S, .int .i64 z] w fun e w' => ∃ v rs, e = .returned v ∧ OutT w' w.heap.size v rs ∧ Toks w' 0 S.data.toList rs (ovr (X.tokens S.data.toList).1 z) ∧ Below w.heap.size w w' := callsIn_wide.1 (over_in 1 w S z)
end Go.Proofs.YtkioaogpmifgeaaDoor
