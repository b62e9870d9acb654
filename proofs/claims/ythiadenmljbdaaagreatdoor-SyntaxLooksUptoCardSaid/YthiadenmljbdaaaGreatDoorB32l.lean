/-
  l: the parts YRFree0 YRFree1 YRFree.
-/
import Derived.Test.YthiadenmljbdaaaGreatDoorB31l
import Derived.BigQuiet
import Derived.Test.YthiadenmljbdaaaGreatDoorB7l
import Derived.Test.YthiadenmljbdaaaGreatDoorB23l
namespace Go.Proofs.YthiadenmljbdaaaGreatDoor
section
open Go.RowKit
def memB (l : List ByteArray) (s : ByteArray) : Bool := l.any (fun a => decide (a = s))
theorem memB_iff {l : List ByteArray} {s : ByteArray} : memB l s = true ↔ s ∈ l := by
 unfold memB
 rw [List.any_eq_true]
 exact ⟨fun ⟨a, ha, e⟩ => of_decide_eq_true e ▸ ha, fun h => ⟨s, h, decide_eq_true rfl⟩⟩
theorem memB_not {l : List ByteArray} {s : ByteArray} : memB l s = false ↔ s ∉ l := by
 rw [← memB_iff]
 simp
mutual
def T.fr : T → List ByteArray → List ByteArray → List ByteArray
 | .node k nm ns _ _ ks, bd, out => T.frs ks (if k = 21 ∨ k = 22 then bd ++ ns else bd) (if k = 2 ∧ memB bd nm = false ∧ memB out nm = false then out ++ [nm] else out)
def T.frs : List T → List ByteArray → List ByteArray → List ByteArray
 | [], _, out => out
 | t :: r, bd, out => T.frs r bd (T.fr t bd out)
end
theorem T.fr_eq (t : T) (bd out : List ByteArray) : t.fr bd out = T.frs t.ks (if t.k = 21 ∨ t.k = 22 then bd ++ t.ns else bd) (if t.k = 2 ∧ memB bd t.nm = false ∧ memB out t.nm = false then out ++ [t.nm] else out) := by cases t; rw [T.fr]; rfl
theorem T.frs_snoc (bd : List ByteArray) : ∀ (l : List T) (t : T) (out : List ByteArray), T.frs (l ++ [t]) bd out = t.fr bd (T.frs l bd out)
 | [], t, out => by simp [T.frs]
 | u :: r, t, out => by simp [T.frs, T.frs_snoc bd r t]
mutual
theorem T.fr_len : ∀ (t : T) (bd out : List ByteArray), (t.fr bd out).length ≤ out.length + t.bulk
 | .node k nm ns ng mg ks, bd, out => by
  have h := T.frs_len ks (if k = 21 ∨ k = 22 then bd ++ ns else bd) (if k = 2 ∧ memB bd nm = false ∧ memB out nm = false then out ++ [nm] else out)
  rw [T.fr, T.bulk]
  have h2 : (if k = 2 ∧ memB bd nm = false ∧ memB out nm = false then out ++ [nm] else out).length ≤ out.length + 1 := by split <;> simp
  omega
theorem T.frs_len : ∀ (l : List T) (bd out : List ByteArray), (T.frs l bd out).length ≤ out.length + T.bulks l
 | [], bd, out => by simp [T.frs]
 | t :: r, bd, out => by
  have h1 := T.fr_len t bd out
  have h2 := T.frs_len r bd (t.fr bd out)
  rw [T.frs, T.bulks]
  omega
end
theorem cntL_app (a b : List ByteArray) (x : List UInt8) : cntL (a ++ b) x = cntL a x + cntL b x := by
 unfold cntL
 rw [List.filter_append, List.length_append]
 omega
theorem cntL_zero (bd : List ByteArray) (s : ByteArray) : (cntL bd s.data.toList == 0) = !memB bd s := by
 rw [Bool.eq_iff_iff, beq_iff_eq, Bool.not_eq_true', memB_not]
 unfold cntL
 rw [show (((bd.filter (fun s' => decide (s'.data.toList = s.data.toList))).length : Nat) : Int) = 0 ↔ (bd.filter (fun s' => decide (s'.data.toList = s.data.toList))).length = 0 by omega, List.length_eq_zero_iff, List.filter_eq_nil_iff]
 constructor
 · intro h hm
   exact h s hm (by simp)
 ·
  intro h a ha hd
  have e : a = s := by
   have := of_decide_eq_true hd
   cases a; cases s
   simpa [Array.toList_inj] using this
  exact h (e ▸ ha)
theorem bnd_cnt (k : Int) (ns bd : List ByteArray) : bnd k ns (cntL bd) = cntL (if k = 21 ∨ k = 22 then bd ++ ns else bd) := by
 unfold bnd
 by_cases h : k = 21 ∨ k = 22
 · rw [if_pos h, if_pos h]
   funext y
   rw [cntL_app]
 · rw [if_neg h, if_neg h]
mutual
theorem T.fr_law : ∀ (t : T) (bd out : List ByteArray), out.Nodup → (t.fr bd out).Nodup ∧ ∀ s : ByteArray, s ∈ t.fr bd out ↔ (s ∈ out ∨ t.fv (cntL bd) s.data.toList = true)
 | .node k nm ns ng mg ks, bd, out, hn => by
  have hn1 : (if k = 2 ∧ memB bd nm = false ∧ memB out nm = false then out ++ [nm] else out).Nodup := by
   split
   · rename_i h
     rw [List.nodup_append]
     refine ⟨hn, by simp, fun a ha b hb e => ?_⟩
     rw [List.mem_singleton] at hb
     subst hb; subst e
     exact memB_not.1 h.2.2 ha
   · exact hn
  obtain ⟨h1, h2⟩ := T.frs_law ks (if k = 21 ∨ k = 22 then bd ++ ns else bd) _ hn1
  rw [T.fr]
  refine ⟨h1, fun s => ?_⟩
  rw [h2 s, T.fv, bnd_cnt, cntL_zero]
  simp only [Bool.or_eq_true, Bool.and_eq_true, beq_iff_eq, decide_eq_true_eq, Bool.not_eq_true']
  have hs : (s.data.toList = nm.data.toList) ↔ s = nm := ⟨fun e => by cases s; cases nm; simpa [Array.toList_inj] using e, fun e => by rw [e]⟩
  rw [hs]
  split
  ·
   rename_i h
   simp only [List.mem_append, List.mem_singleton]
   constructor
   · rintro ((h' | h') | h')
     · exact .inl h'
     · exact .inr (.inl ⟨h.1, h.2.1, h'⟩)
     · exact .inr (.inr h')
   · rintro (h' | ⟨_, _, h'⟩ | h')
     · exact .inl (.inl h')
     · exact .inl (.inr h')
     · exact .inr h'
  ·
   rename_i h
   constructor
   · rintro (h' | h')
     · exact .inl h'
     · exact .inr (.inr h')
   · rintro (h' | ⟨a1, a2, rfl⟩ | h')
     · exact .inl h'
     · by_cases ho : s ∈ out
       · exact .inl ho
       · exact absurd ⟨a1, a2, memB_not.2 ho⟩ h
     · exact .inr h'
theorem T.frs_law : ∀ (l : List T) (bd out : List ByteArray), out.Nodup → (T.frs l bd out).Nodup ∧ ∀ s : ByteArray, s ∈ T.frs l bd out ↔ (s ∈ out ∨ T.fvs l (cntL bd) s.data.toList = true)
 | [], bd, out, hn => by
  rw [T.frs]
  exact ⟨hn, fun s => by simp [T.fvs]⟩
 | t :: r, bd, out, hn => by
  obtain ⟨h1, h2⟩ := T.fr_law t bd out hn
  obtain ⟨h3, h4⟩ := T.frs_law r bd _ h1
  rw [T.frs]
  refine ⟨h3, fun s => ?_⟩
  rw [h4 s, h2 s, T.fvs, Bool.or_eq_true, or_assoc]
end
set_option maxRecDepth 100000 in
set_option maxHeartbeats 1600000 in
theorem in_r (w : World) (R : Nat → Prop) (A : Option Addr) (c : Nat) (l : List ByteArray) (s : ByteArray) (h : StrL w R A c l) (hl : l.length ≤ 4194304) :
    Calls Tryz.prog 98 #[.slice A l.length c, .string s] w fun e w' => e = .returned (.bool (memB l s)) ∧ Below w.heap.size w w' := by
  obtain ⟨hcap, hc⟩ := h
  obtain ⟨n, hn⟩ : ∃ n, l.length = n := ⟨_, rfl⟩
  rw [hn] at hc hl hcap ⊢
  have HN := Lib.hid hn
  have HC := Lib.hid hc
  clear hn hc
  go_enter Tryz.func98, Tryz.ntmps98
  go_wp2_with fail
  go_loopg [5] (n + 1) (fun gk v5 wr => ∃ i : Nat, gk + i = n + 1 ∧ i ≤ n ∧ v5 = .int .i64 (i : Nat) ∧ Hid (∀ j, j < i → l.getD j ⟨#[]⟩ ≠ s) ∧ Below w.heap.size w wr)
  case atStart => exact ⟨0, by omega, Nat.zero_le _, rfl, Lib.hid (fun j hj => by omega), Below.refl _ _⟩
  case round =>
   obtain ⟨i, hi, hin, rfl, HJ, hS⟩ := hrel
   by_cases hlt : i < n
   ·
    have hi3 : decide (i < n) = true := decide_eq_true hlt
    obtain ⟨b, o, rfl, _, hcc⟩ := HC.out (by omega)
    have e0 := keep_cell (hcc i hlt) hS
    obtain ⟨z, hz⟩ : ∃ z, l.getD i ⟨#[]⟩ = z := ⟨_, rfl⟩
    rw [hz] at e0
    have HZ := Lib.hid hz
    have hi0 : (0 : Int) ≤ i := by omega
    have hi1 : (i : Int) < n := by omega
    clear hcc hz
    by_cases a : z = s
    · subst a
      have HM : Hid (z ∈ l) := Lib.hid (by
       have h2 : i < l.length := by rw [HN.out]; exact hlt
       rw [← HZ.out, List.getD_eq_getElem?_getD, List.getElem?_eq_getElem h2]
       exact List.getElem_mem _)
      go_wp2_with fail
      go_ret
      exact ⟨by rw [memB_iff.2 HM.out]; rfl, hS⟩
    · have dk : (z.toList == s.toList) = false := by rw [beq_str]; exact decide_eq_false a
      go_wp2_with fail
      go_roundg (n - i)
      case measure => omega
      case rel => exact ⟨i + 1, by omega, by omega, by go_num, Lib.hid (fun j hj => by
       by_cases hji : j = i
       · subst hji; rw [HZ.out]; exact a
       · exact HJ.out j (by omega)), hS⟩
   ·
    have hi3 : decide (i < n) = false := decide_eq_false hlt
    obtain rfl : i = n := by omega
    have HM : Hid (s ∉ l) := Lib.hid (fun hm => by
     obtain ⟨j, hj, e⟩ := List.getElem_of_mem hm
     exact HJ.out j (by rw [← HN.out]; exact hj) (by rw [List.getD_eq_getElem?_getD, List.getElem?_eq_getElem hj]; exact e))
    go_wp2_with fail
    go_ret
    exact ⟨by rw [memB_not.2 HM.out]; rfl, hS⟩
set_option maxRecDepth 100000 in
set_option maxHeartbeats 1600000 in
theorem names_law (w : World) (R R' : Nat → Prop) (A A' : Option Addr) (c c' : Nat) (l : List ByteArray) (h : StrL w R A c l) (h' : StrL w R' A' c' l) (hl : l.length ≤ 4194304) :
    Calls Tryz.prog 30 #[.slice A l.length c, .slice A' l.length c'] w fun e w' => e = .returned (.bool true) ∧ Below w.heap.size w w' := by
  obtain ⟨hcap, hc⟩ := h
  obtain ⟨hcap', hc'⟩ := h'
  obtain ⟨n, hn⟩ : ∃ n, l.length = n := ⟨_, rfl⟩
  rw [hn] at hc hc' hl hcap hcap' ⊢
  have HC := Lib.hid hc
  have HC' := Lib.hid hc'
  clear hn hc hc'
  go_enter Tryz.func30, Tryz.ntmps30
  go_wp2_with fail
  go_loopg [5] (n + 1) (fun gk v5 wr => ∃ i : Nat, gk + i = n + 1 ∧ i ≤ n ∧ v5 = .int .i64 (i : Nat) ∧ Below w.heap.size w wr)
  case atStart => exact ⟨0, by omega, Nat.zero_le _, rfl, Below.refl _ _⟩
  case round =>
   obtain ⟨i, hi, hin, rfl, hS⟩ := hrel
   by_cases hlt : i < n
   ·
    have hi3 : decide (i < n) = true := decide_eq_true hlt
    obtain ⟨b, o, rfl, _, hcc⟩ := HC.out (by omega)
    obtain ⟨b', o', rfl, _, hcc'⟩ := HC'.out (by omega)
    have e0 := keep_cell (hcc i hlt) hS
    have e1 := keep_cell (hcc' i hlt) hS
    obtain ⟨z, hz⟩ : ∃ z, l.getD i ⟨#[]⟩ = z := ⟨_, rfl⟩
    rw [hz] at e0 e1
    have hi0 : (0 : Int) ≤ i := by omega
    have hi1 : (i : Int) < n := by omega
    clear hcc hcc' hz
    go_wp2_with fail
    go_quiet (fail)
    go_wp2_with fail
    go_roundg (n - i)
    case measure => omega
    case rel => exact ⟨i + 1, by omega, by omega, by go_num, below_drewN hS _⟩
   · have hi3 : decide (i < n) = false := decide_eq_false hlt
     obtain rfl : i = n := by omega
     go_wp2_with fail
     go_ret
     exact ⟨rfl, hS⟩
end
section
open Go.RowKit
abbrev NRow (w : World) (base : Nat) (v : Value) (l : List ByteArray) : Prop := w.ownsRow base 9 1 v l.length (l.map Value.string)
def RowG (w w' : World) (v v' : Value) : Prop := w.grownBy w' v.ownBlock ∧ ∀ k, v'.ownBlock = some k → v.ownBlock = some k ∨ w.heap.size ≤ k
theorem RowG.refl (w : World) (v : Value) : RowG w w v v := ⟨⟨rfl, rfl, rfl, Nat.le_refl _, fun _ _ _ => rfl⟩, fun _ h => .inl h⟩
theorem RowG.trans {w w1 w2 : World} {u u1 u2 : Value} (h : RowG w w1 u u1) (k : RowG w1 w2 u1 u2) : RowG w w2 u u2 := by
 refine ⟨⟨k.1.os.trans h.1.os, k.1.tape.trans h.1.tape, k.1.output.trans h.1.output, Nat.le_trans h.1.size k.1.size, fun b hb hne => ?_⟩, fun b hb => ?_⟩
 · have hs := h.1.size
   refine (k.1.block b (by omega) (fun e => ?_)).trans (h.1.block b hb hne)
   rcases h.2 b e.symm with h' | h'
   · exact hne h'.symm
   · omega
 · rcases k.2 b hb with h' | h'
   · exact h.2 b h'
   · exact .inr (Nat.le_trans h.1.size h')
theorem RowG.of_below {w w' : World} (h : Below w.heap.size w w') (v : Value) : RowG w w' v v := ⟨gb_of_below h _, fun _ h => .inl h⟩
theorem wpList_append_name {P : Program} (w : World) {ops : Array Oper} {rest : List Oper} {o : Oper} {a : Act} {Q : Exit → Act → World → Prop} (hgd : o.guard = none) (s x : Operand) (t : TypeId)
    (ho : o.op = .call { callee := .builtin .append, args := #[s, x], argTypes := #[t, t] })
    (base : Nat) (i : TypeInfo) (ht : P.underlying t = some (.slice 9)) (hi : P.info? 9 = some i) (hz : i.zero = some (.string ⟨#[]⟩)) (hsize : i.size = 1) (hby : i.bytes = 16)
    (v : Value) (l : List ByteArray) (hs : a.eval s = v) (hown : NRow w base v l)
    (g c : Nat) (z : ByteArray) (hx : a.eval x = .slice (some ⟨g, 0, none⟩) 1 c) (hc : w.cell? ⟨g, 0, none⟩ = some (.string z))
    (hb : l.length ≤ 4194304) (hbase : base ≤ w.heap.size)
    (h : ∀ v' w', NRow w' base v' (l ++ [z]) → RowG w w' v v' → wpList P ops Q rest (a.put o.dst v') w') : wpList P ops Q (o :: rest) a w := by
  refine wpList_plain hgd fun K hK => ?_
  have hnews : ∀ j u, [Value.string z][j]? = some u → w.cell? ((⟨g, 0, none⟩ : Addr).add j) = some u := fun j u hu => by
   match j, hu with
   | 0, hu => simp at hu; subst hu; simpa [Addr.add] using hc
  obtain ⟨v', w', hrun, h2, h3, _⟩ := run_append_src (P := P) w base t o.type 9 i (.string ⟨#[]⟩) 1 16 ht hi hz hsize hby rfl (by omega) v l.length (l.map Value.string) hown (some ⟨g, 0, none⟩) 1 c [.string z] rfl (fun _ => ⟨_, rfl, hnews⟩) (fun u hu => by simp at hu; subst hu; rfl) (by unfold maxLen; omega) (by omega) hbase
  have hloc : ∀ k, v'.ownBlock = some k → v.ownBlock = some k ∨ w.heap.size ≤ k := by
   rcases hown.2 with ⟨e, h0⟩ | ⟨g0, cap, cur, e, a1, a2, a3, a4, a5, a6⟩
   ·
    subst e
    have hrn := run_append_nil (P := P) (w := w) t o.type 9 i _ ht hi hz ⟨g, 0, none⟩ 1 c [.string z] (by rw [hsize]; rfl) hnews (by omega) (by omega) (by rw [hby]; omega)
    rw [hrn] at hrun
    injection hrun with r1 r2
    subst r1
    intro k e
    have e : some w.heap.size = some k := e
    injection e with e
    exact .inr (by omega)
   ·
    subst e
    by_cases hroom : l.length + 1 ≤ cap
    · have hrn := run_append_room (P := P) w t o.type 9 i ht hi g0 l.length cap cur a2 ⟨g, 0, none⟩ 1 c [.string z] (by rw [hsize]; rfl) hnews (fun u hu => by simp at hu; subst hu; rfl) hroom (by rw [hsize, a5, show [Value.string z].length = 1 from rfl]; omega)
      rw [hrn] at hrun
      injection hrun with r1 r2
      subst r1
      exact fun k e => .inl e
    ·
     have hcl : ∀ j u, (l.map Value.string)[j]? = some u → w.cell? ((⟨g0, 0, none⟩ : Addr).add j) = some u := fun j u hu => by
      have hj := (List.getElem?_eq_some_iff.1 hu).1
      rw [List.length_map] at hj
      rw [Addr.add_lit, Nat.zero_add, cell_of_row _ _ _ _ _ _ a2, ← Array.getElem?_toList, ← List.getElem?_take_of_lt (show j < l.length * 1 by omega), a6, hu]
     have hrn := run_append_grow (P := P) (w := w) t o.type 9 i _ ht hi hz ⟨g0, 0, none⟩ l.length cap (l.map Value.string) (by rw [hsize, List.length_map]; omega) hcl ⟨g, 0, none⟩ 1 c [.string z] (by rw [hsize]; rfl) hnews (by omega) (by omega) (by rw [hby]; exact growslice_fits (by omega) (by omega))
     rw [hrn] at hrun
     injection hrun with r1 r2
     subst r1
     intro k e
     have e : some w.heap.size = some k := e
     injection e with e
     exact .inr (by omega)
  unfold Oper.wp execOp
  simp only [ho, resolve, invoke, builtin, Sem.run_bind, Sem.run_pure, Result.andThen_ok, List.map_toArray, List.map_cons, List.map_nil, hs, hx, hrun]
  refine hK _ _ (h v' w' ?_ ⟨h3, hloc⟩)
  show w'.ownsRow _ _ _ _ _ _
  rw [List.length_append, List.map_append]
  exact h2
end
section
open Go.RowKit
theorem row_strl {w : World} {base : Nat} {A : Option Addr} {c : Nat} {ns : List ByteArray} (h : NRow w base (.slice A ns.length c) ns) : StrL w (fun b => some b = (Value.slice A ns.length c).ownBlock ∧ b < w.heap.size) A c ns := by
 obtain ⟨_, ⟨e, h0⟩ | ⟨g, cap, cur, e, hb, hg, hc, _, _, ht⟩⟩ := h
 · injection e with _ _ e3
   exact ⟨by omega, fun hp => by omega⟩
 ·
  injection e with e1 _ e3
  subst e1; subst e3
  refine ⟨hc, fun _ => ⟨g, 0, rfl, ⟨rfl, (Array.getElem?_eq_some_iff.1 hg).1⟩, fun i hi => ?_⟩⟩
  have e2 : (cur.toList.take (ns.length * 1))[i]? = some (.string (ns.getD i ⟨#[]⟩)) := by rw [ht]; simp [List.getD, hi]
  rw [List.getElem?_take_of_lt (by omega)] at e2
  rw [Nat.zero_add, cell_of_row _ _ _ _ _ _ hg]
  simpa using e2
theorem row_form {w : World} {base : Nat} {u : Value} {l : List ByteArray} (h : NRow w base u l) : ∃ A c, u = .slice A l.length c := by
 rcases h.2 with ⟨hv, h0⟩ | ⟨g, cap, cur, hv, _⟩
 · exact ⟨none, 0, by rw [hv, h0]⟩
 · exact ⟨_, _, hv⟩
theorem NRow.below {w w' : World} {base : Nat} {u : Value} {l : List ByteArray} (h : NRow w base u l) (hb : Below w.heap.size w w') : NRow w' base u l := World.ownsRow.kept h (gb_of_below hb none) (by cases u.ownBlock <;> simp)
theorem NRow.low {w : World} {base : Nat} {u : Value} {l : List ByteArray} (h : NRow w base u l) : ∀ g, u.ownBlock = some g → g < w.heap.size := fun g e => (World.ownsRow.lt h g e).2
theorem RowG.keep {w w' : World} {u u' : Value} (h : RowG w w' u u') {b : Nat} (hb : some b ≠ u.ownBlock ∧ b < w.heap.size) : w'.heap[b]? = w.heap[b]? := h.1.block b hb.2 hb.1
theorem RowG.out {w w' : World} {u u' : Value} (h : RowG w w' u u') {b : Nat} (hb : some b ≠ u.ownBlock ∧ b < w.heap.size) : some b ≠ u'.ownBlock ∧ b < w'.heap.size := ⟨fun e => by
 rcases h.2 b e.symm with h' | h'
 · exact hb.1 h'.symm
 · exact absurd hb.2 (by omega), Nat.lt_of_lt_of_le hb.2 h.1.size⟩
theorem KidAt.fr {w w' : World} {R : Nat → Prop} {b o : Nat} {u : T} (h : KidAt w R b o u) (hb : w'.heap[b]? = w.heap[b]?) (hR : ∀ g, R g → w'.heap[g]? = w.heap[g]?) : KidAt w' R b o u := by
 obtain ⟨A1, c1, A2, c2, A3, c3, h6, ht⟩ := h
 exact ⟨A1, c1, A2, c2, A3, c3, h6.keep (fun p _ hp hc => (World.cell?_of_block (a := p) (by rw [hp]; exact hb)).trans hc), ht.fr hR⟩
theorem T.In.kidsR {w : World} {R : Nat → Prop} {t : T} {v : Value} (h : T.In w R t v) : ∃ A1 c1 A2 c2 A3 c3, v = tv t.k t.nm A1 t.ns.length c1 t.ng A2 t.mg.length c2 A3 t.ks.length c3 ∧ StrL w R A1 c1 t.ns ∧ SlR w R A2 c2 t.mg ∧ t.ks.length ≤ c3 ∧
    (0 < t.ks.length → ∃ b o, A3 = some ⟨b, o, Option.none⟩ ∧ R b ∧ ∀ i, i < t.ks.length → KidAt w R b (o + i * 6) (t.ks.getD i t0)) := by
  obtain ⟨A1, c1, A2, c2, A3, c3, e, h1, h2, h3, h4⟩ := h.open
  refine ⟨A1, c1, A2, c2, A3, c3, e, h1, h2, h3, fun hn => ?_⟩
  obtain ⟨b, o, e1, hk⟩ := h4 hn
  refine ⟨b, o, e1, ?_, hk⟩
  subst e1
  cases t with
  | node k nm ns ng mg ks =>
   rw [T.In] at h
   obtain ⟨B1, d1, B2, d2, B3, d3, e2, _, _, _, h5⟩ := h
   obtain ⟨b', o', e3, hb, _⟩ := h5 hn
   subst e3
   unfold tv at e e2
   rw [e] at e2
   injection e2 with e2
   injection e2 with e2
   simp only [List.cons.injEq, and_true] at e2
   obtain ⟨_, _, _, _, _, e6⟩ := e2
   injection e6 with e6
   injection e6 with e6
   injection e6 with e6
   rw [e6]
   exact hb
set_option maxRecDepth 100000 in
set_option maxHeartbeats 16000000 in
theorem free_r : ∀ (M : Nat) (t : T) (w : World) (R Rb : Nat → Prop) (v : Value) (A : Option Addr) (c : Nat) (bd out : List ByteArray) (u : Value) (base : Nat), t.bulk ≤ M → M ≤ 1048576 → T.In w R t v → (∀ g, R g → some g ≠ u.ownBlock ∧ g < w.heap.size) →
    StrL w Rb A c bd → (∀ g, Rb g → some g ≠ u.ownBlock ∧ g < w.heap.size) → bd.length + t.bulk ≤ 2097152 → out.length + t.bulk ≤ 2097152 → NRow w base u out → base ≤ w.heap.size →
    Calls Tryz.prog 59 #[v, .slice A bd.length c, u] w fun e w' => ∃ u', e = .returned u' ∧ NRow w' base u' (t.fr bd out) ∧ RowG w w' u u'
  | 0, t, _, _, _, _, _, _, _, _, _, _, hN, _, _, _, _, _, _, _, _, _ => by have := T.bulk_pos t; omega
  | M + 1, t, w, R, Rb, v, A, c, bd, out, u, base, hN, hN2, h, hR, hbd, hRb, hl1, hl2, hown, hbase => by
   have ih := free_r M
   obtain ⟨A1, c1, A2, c2, A3, c3, rfl, hnames, hmag, hc3, hkids⟩ := T.In.kidsR h
   obtain ⟨ao, cap, rfl⟩ := row_form hown
   obtain ⟨hz1, hz2, hz3, hz4, hz5⟩ := T.len_le hN
   have hfr := T.fr_eq t bd out
   obtain ⟨i1, hinfo1, jz0, jz1, jz2⟩ := info_parts info_name
   obtain ⟨W, hW, pt, hb0⟩ := made_blk w #[.int .i64 t.k, .string t.nm, .slice A1 t.ns.length c1, .bool t.ng, .slice A2 t.mg.length c2, .slice A3 t.ks.length c3] 28
   obtain ⟨Bt, hBt⟩ : ∃ b, b = w.heap.size := ⟨_, rfl⟩
   rw [← hBt] at pt
   obtain ⟨U, hU⟩ : ∃ U : Value, .slice ao out.length cap = U := ⟨_, rfl⟩
   have HIN1 := Lib.hid (fun (w' : World) (hb : Below W.heap.size W w') => in_r w' Rb A c bd t.nm (hbd.keep (fun p _ hp hc => keep_cell hc (below_on hb0 hb)) (fun _ h => h)) (by omega))
   have HIN2 := Lib.hid (fun (w' : World) (hb : Below W.heap.size W w') => in_r w' _ ao cap out t.nm ((row_strl hown).keep (fun p _ hp hc => keep_cell hc (below_on hb0 hb)) (fun _ h => h)) (by omega))
   have HBD := Lib.hid hbd
   have HNM := Lib.hid hnames
   have HK := Lib.hid hkids
   have HB := Lib.hid hN
   have HOW : Hid (NRow W base U out) := Lib.hid (hU ▸ hown.below hb0)
   have HUL : Hid (∀ g, U.ownBlock = some g → g < w.heap.size) := Lib.hid (hU ▸ hown.low)
   have HR2 : Hid (∀ g, R g → some g ≠ U.ownBlock ∧ g < w.heap.size) := Lib.hid (hU ▸ hR)
   have HRB2 : Hid (∀ g, Rb g → some g ≠ U.ownBlock ∧ g < w.heap.size) := Lib.hid (hU ▸ hRb)
   have HLL : Hid (∀ i, i < t.ks.length → ∀ (bi out1 : List ByteArray), bi.length ≤ bd.length + t.ns.length → out1.length ≤ out.length + 1 → bi.length + (t.ks.getD i t0).bulk ≤ 2097152 ∧ (T.frs (t.ks.take i) bi out1).length + (t.ks.getD i t0).bulk ≤ 2097152) := Lib.hid (fun i hi bi out1 h1 h2 => by
    have a1 := T.bulks_in t.ks i hi
    have a2 := T.frs_len (t.ks.take i) bi out1
    have a3 := sbulk_len t.ns
    have a4 : t.nm.size + sbulk t.ns + t.mg.length + T.bulks t.ks + 1 = t.bulk := by cases t; rw [T.bulk]; rfl
    have a5 := T.bulk_kid t.ks i hi
    constructor <;> omega)
   have hbb : bd.length ≤ 2097152 := by omega
   have HW := Lib.hid hW
   have HB0 := Lib.hid hb0
   have HBT := Lib.hid hBt
   have HU := Lib.hid hU
   obtain ⟨n, hn⟩ : ∃ n, t.ks.length = n := ⟨_, rfl⟩
   obtain ⟨n1, hn1⟩ : ∃ n, t.ns.length = n := ⟨_, rfl⟩
   obtain ⟨n2, hn2⟩ : ∃ n, t.mg.length = n := ⟨_, rfl⟩
   obtain ⟨kk, hkk⟩ : ∃ n, t.k = n := ⟨_, rfl⟩
   obtain ⟨nm, hnm⟩ : ∃ n, t.nm = n := ⟨_, rfl⟩
   obtain ⟨ng, hng⟩ : ∃ n, t.ng = n := ⟨_, rfl⟩
   obtain ⟨bl, hbl⟩ : ∃ n, bd.length = n := ⟨_, rfl⟩
   obtain ⟨ol, hol⟩ : ∃ n, out.length = n := ⟨_, rfl⟩
   have hcapn := hnames.1
   have hcapb := hbd.1
   rw [hn1] at hcapn hz2
   rw [hbl] at hcapb
   rw [hn] at hz5 hc3
   rw [hnm, hbl] at HIN1
   rw [hnm, hol] at HIN2
   rw [hn, hn1, hn2, hkk, hnm, hng] at pt HW
   rw [hol] at HU
   rw [hbl] at hbb
   rw [hkk, hnm] at hfr
   have HFR := Lib.hid hfr
   have HEQ2 : Hid (out.length ≤ 4194304) := Lib.hid (by omega)
   have HEQ := Lib.hid (And.intro hn (And.intro hn1 (And.intro hbl hol)))
   rw [hn, hn1, hn2, hkk, hnm, hng, hbl, hol]
   clear h hR hbd hRb hl1 hl2 hown hnames hmag hkids hN hn hn1 hn2 hkk hnm hng hbl hol hW hb0 hBt hU hfr hz1 hz3 hz4
   obtain ⟨q1, hq1⟩ : ∃ q, memB bd nm = q := ⟨_, rfl⟩
   obtain ⟨q2, hq2⟩ : ∃ q, memB out nm = q := ⟨_, rfl⟩
   rw [hq1] at HIN1
   rw [hq2] at HIN2
   have HQ := Lib.hid (And.intro hq1 hq2)
   clear hq1 hq2
   have hV0 := Below.refl W.heap.size W
   obtain ⟨x0, x1, x2, x3, x4, x5⟩ := pt.six
   have hbW : base ≤ W.heap.size := Nat.le_trans hbase HB0.out.size
   by_cases k2 : kk = 2
   ·
    subst k2
    cases q1
    ·
     cases q2
     ·
      skip
      go_enter Tryz.func59, Tryz.ntmps59
      go_upto_region 1 with (fail)
      rw [← HW.out, ← HBT.out]
      go_upto_region 2 with (first
       | (go_at_call 98; refine (HIN2.out _ hV1).mono ?_; rintro e w2 ⟨rfl, hb2⟩; have hV2 := below_on hV1 hb2; clear hb2 x0 x1 x2 x3 x4 x5; obtain ⟨x0, x1, x2, x3, x4, x5⟩ := (pt.below hV2).six)
       | (go_at_call 98; refine (HIN1.out _ hV0).mono ?_; rintro e w1 ⟨rfl, hb1⟩; have hV1 := below_on hV0 hb1; clear hb1 x0 x1 x2 x3 x4 x5; obtain ⟨x0, x1, x2, x3, x4, x5⟩ := (pt.below hV1).six))
      have hVA := below_on hV2 (below_alloc1 w2 (.cells #[.string nm] 9))
      have ptA := pt.below hVA
      have hol2 : out.length ≤ 4194304 := HEQ2.out
      clear x0 x1 x2 x3 x4 x5
      obtain ⟨x0, x1, x2, x3, x4, x5⟩ := (pt.below hV2).six
      go_upto_region 3 with (at_builtin; refine wpList_append_name _ rfl (.tmp 26) (.tmp 29) 22 rfl base i1 Tryz.underlying22 hinfo1 jz0 jz1 jz2 U out HU.out (HOW.out.below hVA) w2.heap.size 1 nm rfl (cell_of_row _ _ _ _ _ _ (heap_alloc_new w2 _)) (by omega) (Nat.le_trans hbW hVA.size) ?_; intro v3 w3 hN3 hG3; obtain ⟨x0, x1, x2, x3, x4, x5⟩ := ptA.six)
      clear x0 x1 x2 x3 x4 x5
      obtain ⟨x0, x1, x2, x3, x4, x5⟩ := pt.six
      have hBtA : some Bt ≠ U.ownBlock ∧ Bt < (w2.alloc (.cells #[.string nm] 9)).heap.size := ⟨fun e => by have := HUL.out Bt e.symm; have := HBT.out; omega, ptA.lt⟩
      have hBtX := hG3.out hBtA
      have ptX := (hG3.keep hBtA).trans ptA
      have pt5 := (show Blk w3 Bt 28 _ from ptX).six
      clear x0 x1 x2 x3 x4 x5
      obtain ⟨x0, x1, x2, x3, x4, x5⟩ := pt5
      go_upto_region 8 with (fail)
      have HG := Lib.hid (show RowG w w3 U v3 from (RowG.of_below (below_on HB0.out hVA) U).trans hG3)
      have HN3 := Lib.hid (show NRow w3 base v3 (out ++ [nm]) from hN3)
      have HBtU : Hid (some Bt ≠ v3.ownBlock ∧ Bt < w3.heap.size) := Lib.hid (hBtX)
      have pt3 : Blk w3 Bt 28 _ := ptX
      have HBI := Lib.hid (show StrL w3 Rb A c bd from HBD.out.keep (fun p _ hp hc => (World.cell?_of_block (a := p) (HG.out.keep (HRB2.out _ hp))).trans hc) (fun _ h => h))
      have HRB3 : Hid (∀ g, Rb g → some g ≠ v3.ownBlock ∧ g < w3.heap.size) := Lib.hid (fun g hg => HG.out.out (HRB2.out g hg))
      have HNI : Hid (bd.length = bl) := Lib.hid (HEQ.out.2.2.1)
      have HFR2 : Hid (t.fr bd out = T.frs t.ks bd (out ++ [nm])) := Lib.hid (by rw [HFR.out, if_neg (by omega), if_pos ⟨trivial, HQ.out.1, HQ.out.2⟩])
      have HBN := Lib.hid (fun (i : Nat) (hi : i < t.ks.length) => HLL.out i hi bd (out ++ [nm]) (Nat.le_add_right _ _) (by simp))
      have hbW3 : base ≤ w3.heap.size := Nat.le_trans hbase HG.out.1.size
      clear hV0 pt x0 x1 x2 x3 x4 x5
      obtain ⟨x0, x1, x2, x3, x4, x5⟩ := pt3.six
      go_wp2_with fail
      go_loopg [2, 8] (n + 1) (fun gq v2 v8 wr => ∃ i : Nat, gq + i = n + 1 ∧ i ≤ n ∧ v8 = .int .i64 (i : Nat) ∧ NRow wr base v2 (T.frs (t.ks.take i) bd (out ++ [nm])) ∧ RowG w3 wr v3 v2)
      case atStart => exact ⟨0, by omega, Nat.zero_le _, rfl, HN3.out, RowG.refl _ _⟩
      case round =>
       clear x0 x1 x2 x3 x4 x5
       obtain ⟨i, hi, hin, rfl, hNi, hGi⟩ := hrel
       have pt4 : Blk wr Bt 28 _ := (hGi.keep HBtU.out).trans pt3
       obtain ⟨x0, x1, x2, x3, x4, x5⟩ := pt4.six
       have hGw := HG.out.trans hGi
       by_cases hlt : i < n
       ·
        have hi3 : decide (i < n) = true := decide_eq_true hlt
        have hlt2 : i < t.ks.length := by rw [HEQ.out.1]; exact hlt
        obtain ⟨b, o, rfl, hRb0, hk⟩ := HK.out (by omega)
        have hkd := (hk i hlt2).fr (hGw.keep (HR2.out b hRb0)) (fun g hg => hGw.keep (HR2.out g hg))
        have hsn := take_snoc t.ks t0 i hlt2
        have hub := T.kid_bulk HB.out hlt2
        have hbn := HBN.out i hlt2
        obtain ⟨a, ha⟩ : ∃ u, t.ks.getD i t0 = u := ⟨_, rfl⟩
        rw [ha] at hkd hsn hub hbn
        have HSN := Lib.hid hsn
        obtain ⟨B1, e1, B2, e2, B3, e3, h6, hkin⟩ := hkd
        obtain ⟨z0, z1, z2, z3, z4, z5⟩ := h6
        have hcall := ih a wr R Rb _ A c bd (T.frs (t.ks.take i) bd (out ++ [nm])) u2 base hub (by omega) hkin (fun g hg => hGw.out (HR2.out g hg)) (HBI.out.keep (fun p _ hp hc => (World.cell?_of_block (a := p) (hGi.keep (HRB3.out _ hp))).trans hc) (fun _ h => h)) (fun g hg => hGi.out (HRB3.out g hg)) hbn.1 hbn.2 hNi (Nat.le_trans hbW3 hGi.1.size)
        rw [HNI.out] at hcall
        have HCALL := Lib.hid hcall
        have HGI := Lib.hid hGi
        have hi0 : (0 : Int) ≤ i := by omega
        have hi1 : (i : Int) < n := by omega
        clear hcall hbn hub hsn ha hkin hk hGw hGi hNi
        go_upto_region 10 with (go_at_call 59; refine HCALL.out.mono ?_; rintro e w5 ⟨u5, rfl, hN5, hG5⟩)
        have HN5 := Lib.hid hN5
        have HG5 := Lib.hid (HGI.out.trans hG5)
        clear hN5 hG5 x0 x1 x2 x3 x4 x5 z0 z1 z2 z3 z4 z5
        go_wp2_with fail
        go_roundg (n - i)
        case measure => omega
        case rel => exact ⟨i + 1, by omega, by omega, by go_num, by rw [HSN.out, T.frs_snoc]; exact HN5.out, HG5.out⟩
       · have hi3 : decide (i < n) = false := decide_eq_false hlt
         obtain rfl : i = n := by omega
         have htk : t.ks.take i = t.ks := by rw [← HEQ.out.1, List.take_length]
         rw [htk, ← HFR2.out] at hNi
         have HNI2 := Lib.hid hNi
         have HGW := Lib.hid hGw
         clear hNi hGw hGi htk
         go_wp2_with fail
         go_ret
         exact ⟨u2, rfl, HNI2.out, by rw [HU.out]; exact HGW.out⟩
     ·
      skip
      go_enter Tryz.func59, Tryz.ntmps59
      go_upto_region 1 with (fail)
      rw [← HW.out, ← HBT.out]
      go_upto_region 8 with (first
       | (go_at_call 98; refine (HIN2.out _ hV1).mono ?_; rintro e w2 ⟨rfl, hb2⟩; have hV2 := below_on hV1 hb2; clear hb2 x0 x1 x2 x3 x4 x5; obtain ⟨x0, x1, x2, x3, x4, x5⟩ := (pt.below hV2).six)
       | (go_at_call 98; refine (HIN1.out _ hV0).mono ?_; rintro e w1 ⟨rfl, hb1⟩; have hV1 := below_on hV0 hb1; clear hb1 x0 x1 x2 x3 x4 x5; obtain ⟨x0, x1, x2, x3, x4, x5⟩ := (pt.below hV1).six))
      have HBX := Lib.hid (hV2)
      have HG := Lib.hid (show RowG w w2 U U from RowG.of_below (below_on HB0.out HBX.out) U)
      have HN3 := Lib.hid (show NRow w2 base U out from HOW.out.below HBX.out)
      have HBtU : Hid (some Bt ≠ U.ownBlock ∧ Bt < w2.heap.size) := Lib.hid (⟨fun e => by have := HUL.out Bt e.symm; have := HBT.out; omega, Nat.lt_of_lt_of_le pt.lt (HBX.out).size⟩)
      have pt3 : Blk w2 Bt 28 _ := pt.below HBX.out
      have HBI := Lib.hid (show StrL w2 Rb A c bd from HBD.out.keep (fun p _ hp hc => (World.cell?_of_block (a := p) (HG.out.keep (HRB2.out _ hp))).trans hc) (fun _ h => h))
      have HRB3 : Hid (∀ g, Rb g → some g ≠ U.ownBlock ∧ g < w2.heap.size) := Lib.hid (fun g hg => HG.out.out (HRB2.out g hg))
      have HNI : Hid (bd.length = bl) := Lib.hid (HEQ.out.2.2.1)
      have HFR2 : Hid (t.fr bd out = T.frs t.ks bd out) := Lib.hid (by rw [HFR.out, if_neg (by omega), if_neg (fun h => by have := h.2.2; rw [HQ.out.2] at this; cases this)])
      have HBN := Lib.hid (fun (i : Nat) (hi : i < t.ks.length) => HLL.out i hi bd out (Nat.le_add_right _ _) (Nat.le_succ _))
      have hbW3 : base ≤ w2.heap.size := Nat.le_trans hbase HG.out.1.size
      clear hV0 pt x0 x1 x2 x3 x4 x5
      obtain ⟨x0, x1, x2, x3, x4, x5⟩ := pt3.six
      go_wp2_with fail
      go_loopg [2, 8] (n + 1) (fun gq v2 v8 wr => ∃ i : Nat, gq + i = n + 1 ∧ i ≤ n ∧ v8 = .int .i64 (i : Nat) ∧ NRow wr base v2 (T.frs (t.ks.take i) bd out) ∧ RowG w2 wr U v2)
      case atStart => exact ⟨0, by omega, Nat.zero_le _, rfl, by rw [HU.out]; exact HN3.out, by rw [HU.out]; exact RowG.refl _ _⟩
      case round =>
       clear x0 x1 x2 x3 x4 x5
       obtain ⟨i, hi, hin, rfl, hNi, hGi⟩ := hrel
       have pt4 : Blk wr Bt 28 _ := (hGi.keep HBtU.out).trans pt3
       obtain ⟨x0, x1, x2, x3, x4, x5⟩ := pt4.six
       have hGw := HG.out.trans hGi
       by_cases hlt : i < n
       ·
        have hi3 : decide (i < n) = true := decide_eq_true hlt
        have hlt2 : i < t.ks.length := by rw [HEQ.out.1]; exact hlt
        obtain ⟨b, o, rfl, hRb0, hk⟩ := HK.out (by omega)
        have hkd := (hk i hlt2).fr (hGw.keep (HR2.out b hRb0)) (fun g hg => hGw.keep (HR2.out g hg))
        have hsn := take_snoc t.ks t0 i hlt2
        have hub := T.kid_bulk HB.out hlt2
        have hbn := HBN.out i hlt2
        obtain ⟨a, ha⟩ : ∃ u, t.ks.getD i t0 = u := ⟨_, rfl⟩
        rw [ha] at hkd hsn hub hbn
        have HSN := Lib.hid hsn
        obtain ⟨B1, e1, B2, e2, B3, e3, h6, hkin⟩ := hkd
        obtain ⟨z0, z1, z2, z3, z4, z5⟩ := h6
        have hcall := ih a wr R Rb _ A c bd (T.frs (t.ks.take i) bd out) u2 base hub (by omega) hkin (fun g hg => hGw.out (HR2.out g hg)) (HBI.out.keep (fun p _ hp hc => (World.cell?_of_block (a := p) (hGi.keep (HRB3.out _ hp))).trans hc) (fun _ h => h)) (fun g hg => hGi.out (HRB3.out g hg)) hbn.1 hbn.2 hNi (Nat.le_trans hbW3 hGi.1.size)
        rw [HNI.out] at hcall
        have HCALL := Lib.hid hcall
        have HGI := Lib.hid hGi
        have hi0 : (0 : Int) ≤ i := by omega
        have hi1 : (i : Int) < n := by omega
        clear hcall hbn hub hsn ha hkin hk hGw hGi hNi
        go_upto_region 10 with (go_at_call 59; refine HCALL.out.mono ?_; rintro e w5 ⟨u5, rfl, hN5, hG5⟩)
        have HN5 := Lib.hid hN5
        have HG5 := Lib.hid (HGI.out.trans hG5)
        clear hN5 hG5 x0 x1 x2 x3 x4 x5 z0 z1 z2 z3 z4 z5
        go_wp2_with fail
        go_roundg (n - i)
        case measure => omega
        case rel => exact ⟨i + 1, by omega, by omega, by go_num, by rw [HSN.out, T.frs_snoc]; exact HN5.out, HG5.out⟩
       · have hi3 : decide (i < n) = false := decide_eq_false hlt
         obtain rfl : i = n := by omega
         have htk : t.ks.take i = t.ks := by rw [← HEQ.out.1, List.take_length]
         rw [htk, ← HFR2.out] at hNi
         have HNI2 := Lib.hid hNi
         have HGW := Lib.hid hGw
         clear hNi hGw hGi htk
         go_wp2_with fail
         go_ret
         exact ⟨u2, rfl, HNI2.out, by rw [HU.out]; exact HGW.out⟩
    ·
     skip
     go_enter Tryz.func59, Tryz.ntmps59
     go_upto_region 1 with (fail)
     rw [← HW.out, ← HBT.out]
     go_upto_region 8 with (go_at_call 98; refine (HIN1.out _ hV0).mono ?_; rintro e w1 ⟨rfl, hb1⟩; have hV1 := below_on hV0 hb1; clear hb1 x0 x1 x2 x3 x4 x5; obtain ⟨x0, x1, x2, x3, x4, x5⟩ := (pt.below hV1).six)
     have HBX := Lib.hid (hV1)
     have HG := Lib.hid (show RowG w w1 U U from RowG.of_below (below_on HB0.out HBX.out) U)
     have HN3 := Lib.hid (show NRow w1 base U out from HOW.out.below HBX.out)
     have HBtU : Hid (some Bt ≠ U.ownBlock ∧ Bt < w1.heap.size) := Lib.hid (⟨fun e => by have := HUL.out Bt e.symm; have := HBT.out; omega, Nat.lt_of_lt_of_le pt.lt (HBX.out).size⟩)
     have pt3 : Blk w1 Bt 28 _ := pt.below HBX.out
     have HBI := Lib.hid (show StrL w1 Rb A c bd from HBD.out.keep (fun p _ hp hc => (World.cell?_of_block (a := p) (HG.out.keep (HRB2.out _ hp))).trans hc) (fun _ h => h))
     have HRB3 : Hid (∀ g, Rb g → some g ≠ U.ownBlock ∧ g < w1.heap.size) := Lib.hid (fun g hg => HG.out.out (HRB2.out g hg))
     have HNI : Hid (bd.length = bl) := Lib.hid (HEQ.out.2.2.1)
     have HFR2 : Hid (t.fr bd out = T.frs t.ks bd out) := Lib.hid (by rw [HFR.out, if_neg (by omega), if_neg (fun h => by have := h.2.1; rw [HQ.out.1] at this; cases this)])
     have HBN := Lib.hid (fun (i : Nat) (hi : i < t.ks.length) => HLL.out i hi bd out (Nat.le_add_right _ _) (Nat.le_succ _))
     have hbW3 : base ≤ w1.heap.size := Nat.le_trans hbase HG.out.1.size
     clear hV0 pt x0 x1 x2 x3 x4 x5
     obtain ⟨x0, x1, x2, x3, x4, x5⟩ := pt3.six
     go_wp2_with fail
     go_loopg [2, 8] (n + 1) (fun gq v2 v8 wr => ∃ i : Nat, gq + i = n + 1 ∧ i ≤ n ∧ v8 = .int .i64 (i : Nat) ∧ NRow wr base v2 (T.frs (t.ks.take i) bd out) ∧ RowG w1 wr U v2)
     case atStart => exact ⟨0, by omega, Nat.zero_le _, rfl, by rw [HU.out]; exact HN3.out, by rw [HU.out]; exact RowG.refl _ _⟩
     case round =>
      clear x0 x1 x2 x3 x4 x5
      obtain ⟨i, hi, hin, rfl, hNi, hGi⟩ := hrel
      have pt4 : Blk wr Bt 28 _ := (hGi.keep HBtU.out).trans pt3
      obtain ⟨x0, x1, x2, x3, x4, x5⟩ := pt4.six
      have hGw := HG.out.trans hGi
      by_cases hlt : i < n
      ·
       have hi3 : decide (i < n) = true := decide_eq_true hlt
       have hlt2 : i < t.ks.length := by rw [HEQ.out.1]; exact hlt
       obtain ⟨b, o, rfl, hRb0, hk⟩ := HK.out (by omega)
       have hkd := (hk i hlt2).fr (hGw.keep (HR2.out b hRb0)) (fun g hg => hGw.keep (HR2.out g hg))
       have hsn := take_snoc t.ks t0 i hlt2
       have hub := T.kid_bulk HB.out hlt2
       have hbn := HBN.out i hlt2
       obtain ⟨a, ha⟩ : ∃ u, t.ks.getD i t0 = u := ⟨_, rfl⟩
       rw [ha] at hkd hsn hub hbn
       have HSN := Lib.hid hsn
       obtain ⟨B1, e1, B2, e2, B3, e3, h6, hkin⟩ := hkd
       obtain ⟨z0, z1, z2, z3, z4, z5⟩ := h6
       have hcall := ih a wr R Rb _ A c bd (T.frs (t.ks.take i) bd out) u2 base hub (by omega) hkin (fun g hg => hGw.out (HR2.out g hg)) (HBI.out.keep (fun p _ hp hc => (World.cell?_of_block (a := p) (hGi.keep (HRB3.out _ hp))).trans hc) (fun _ h => h)) (fun g hg => hGi.out (HRB3.out g hg)) hbn.1 hbn.2 hNi (Nat.le_trans hbW3 hGi.1.size)
       rw [HNI.out] at hcall
       have HCALL := Lib.hid hcall
       have HGI := Lib.hid hGi
       have hi0 : (0 : Int) ≤ i := by omega
       have hi1 : (i : Int) < n := by omega
       clear hcall hbn hub hsn ha hkin hk hGw hGi hNi
       go_upto_region 10 with (go_at_call 59; refine HCALL.out.mono ?_; rintro e w5 ⟨u5, rfl, hN5, hG5⟩)
       have HN5 := Lib.hid hN5
       have HG5 := Lib.hid (HGI.out.trans hG5)
       clear hN5 hG5 x0 x1 x2 x3 x4 x5 z0 z1 z2 z3 z4 z5
       go_wp2_with fail
       go_roundg (n - i)
       case measure => omega
       case rel => exact ⟨i + 1, by omega, by omega, by go_num, by rw [HSN.out, T.frs_snoc]; exact HN5.out, HG5.out⟩
      · have hi3 : decide (i < n) = false := decide_eq_false hlt
        obtain rfl : i = n := by omega
        have htk : t.ks.take i = t.ks := by rw [← HEQ.out.1, List.take_length]
        rw [htk, ← HFR2.out] at hNi
        have HNI2 := Lib.hid hNi
        have HGW := Lib.hid hGw
        clear hNi hGw hGi htk
        go_wp2_with fail
        go_ret
        exact ⟨u2, rfl, HNI2.out, by rw [HU.out]; exact HGW.out⟩
   ·
    have HBS : Hid ((bd.map Value.string).length = bl * 1 ∧ (0 < bl → ∃ ad, A = some ad ∧ ∀ j u, (bd.map Value.string)[j]? = some u → W.cell? (ad.add j) = some u)) := Lib.hid ⟨by rw [List.length_map, HEQ.out.2.2.1, Nat.mul_one], fun hp => st_src (HBD.out.keep (fun p _ hp hc => keep_cell hc HB0.out) (fun _ h => h)) (by rw [List.length_map, HEQ.out.2.2.1]; exact hp)⟩
    have HNS : Hid ((t.ns.map Value.string).length = n1 * 1 ∧ ∀ w' : World, Below W.heap.size W w' → (0 < n1 → ∃ ad, A1 = some ad ∧ ∀ j u, (t.ns.map Value.string)[j]? = some u → w'.cell? (ad.add j) = some u)) := Lib.hid ⟨by rw [List.length_map, HEQ.out.2.1, Nat.mul_one], fun w' hb hp => st_src (HNM.out.keep (fun p _ hp hc => keep_cell hc (below_on HB0.out hb)) (fun _ h => h)) (by rw [List.length_map, HEQ.out.2.1]; exact hp)⟩
    by_cases k21 : kk = 21
    ·
     subst k21
     go_enter Tryz.func59, Tryz.ntmps59
     go_upto_region 1 with (fail)
     rw [← HW.out, ← HBT.out]
     have hlen6 : bl + n1 ≤ 4194304 := by omega
     go_upto_region 7 with (at_builtin; refine wpList_append_src _ rfl (.tmp 40) (.tmp 41) 22 rfl W.heap.size 9 i1 (.string ⟨#[]⟩) 1 16 Tryz.underlying22 hinfo1 jz0 jz1 jz2 rfl (by decide) _ 0 [] rfl (World.ownsRow_nil _ _ _ _) A bl c (bd.map Value.string) rfl HBS.out.1 HBS.out.2 (fun u hu => by obtain ⟨s, _, rfl⟩ := List.mem_map.1 hu; rfl) (by unfold maxLen; omega) (by omega) (Nat.le_refl _) ?_; intro v5 w5 hown5 hg5 _; have hV5 := Below.grown (Below.refl W.heap.size W) hg5 (Nat.le_refl _) (fun k hk => by cases hk); clear x0 x1 x2 x3 x4 x5; obtain ⟨x0, x1, x2, x3, x4, x5⟩ := (pt.below hV5).six)
     go_upto_region 8 with (at_builtin; refine wpList_append_src _ rfl (.tmp 43) (.tmp 45) 22 rfl W.heap.size 9 i1 (.string ⟨#[]⟩) 1 16 Tryz.underlying22 hinfo1 jz0 jz1 jz2 rfl (by decide) v5 (0 + bl) ([] ++ bd.map Value.string) rfl hown5 A1 n1 c1 (t.ns.map Value.string) rfl HNS.out.1 (HNS.out.2 _ hV5) (fun u hu => by obtain ⟨s, _, rfl⟩ := List.mem_map.1 hu; rfl) (by unfold maxLen; omega) (by omega) hV5.size ?_; intro v6 w6 hown6 hg6 _; have hV6 := Below.grown hV5 hg6 hV5.size (fun k hk => (World.ownsRow.lt hown5 k hk).1); clear x0 x1 x2 x3 x4 x5; obtain ⟨x0, x1, x2, x3, x4, x5⟩ := (pt.below hV6).six)
     have HBX := Lib.hid hV6
     have hown6' : w6.ownsRow W.heap.size 9 1 v6 (bd ++ t.ns).length ((bd ++ t.ns).map Value.string) := by
      have h := hown6
      rw [List.nil_append, Nat.zero_add, ← List.map_append] at h
      rw [show (bd ++ t.ns).length = bl + n1 by rw [List.length_append, HEQ.out.2.2.1, HEQ.out.2.1]]
      exact h
     obtain ⟨Ai, ci, hv6⟩ := row_form hown6'
     subst hv6
     have hst6 := row_strl hown6'
     have HLT := Lib.hid (fun g (e : (Value.slice Ai (bd ++ t.ns).length ci).ownBlock = some g) => World.ownsRow.lt hown6' g e)
     have HNL : Hid ((bd ++ t.ns).length = bl + n1) := Lib.hid (by rw [List.length_append, HEQ.out.2.2.1, HEQ.out.2.1])
     rw [HNL.out]
     clear hown5 hg5 hown6 hown6' hg6 hV5 hV6
     have HG := Lib.hid (show RowG w w6 U U from RowG.of_below (below_on HB0.out HBX.out) U)
     have HN3 := Lib.hid (show NRow w6 base U out from HOW.out.below HBX.out)
     have HBtU : Hid (some Bt ≠ U.ownBlock ∧ Bt < w6.heap.size) := Lib.hid (⟨fun e => by have := HUL.out Bt e.symm; have := HBT.out; omega, Nat.lt_of_lt_of_le pt.lt (HBX.out).size⟩)
     have pt3 : Blk w6 Bt 28 _ := pt.below HBX.out
     have HBI := Lib.hid (show StrL w6 (fun b => some b = (Value.slice Ai (bd ++ t.ns).length ci).ownBlock ∧ b < w6.heap.size) Ai ci (bd ++ t.ns) from hst6)
     have HRB3 : Hid (∀ g, (fun b => some b = (Value.slice Ai (bd ++ t.ns).length ci).ownBlock ∧ b < w6.heap.size) g → some g ≠ U.ownBlock ∧ g < w6.heap.size) := Lib.hid (fun g hg => ⟨fun e => by have h1 := HUL.out g e.symm; have h2 := (HLT.out g hg.1.symm).1; have := HB0.out.size; omega, hg.2⟩)
     have HNI : Hid ((bd ++ t.ns).length = (bl + n1)) := Lib.hid (HNL.out)
     have HFR2 : Hid (t.fr bd out = T.frs t.ks (bd ++ t.ns) out) := Lib.hid (by rw [HFR.out, if_pos (by omega), if_neg (by omega)])
     have HBN := Lib.hid (fun (i : Nat) (hi : i < t.ks.length) => HLL.out i hi (bd ++ t.ns) out (by rw [List.length_append]; exact Nat.le_refl _) (Nat.le_succ _))
     have hbW3 : base ≤ w6.heap.size := Nat.le_trans hbase HG.out.1.size
     clear hV0 pt x0 x1 x2 x3 x4 x5
     obtain ⟨x0, x1, x2, x3, x4, x5⟩ := pt3.six
     go_wp2_with fail
     go_loopg [2, 8] (n + 1) (fun gq v2 v8 wr => ∃ i : Nat, gq + i = n + 1 ∧ i ≤ n ∧ v8 = .int .i64 (i : Nat) ∧ NRow wr base v2 (T.frs (t.ks.take i) (bd ++ t.ns) out) ∧ RowG w6 wr U v2)
     case atStart => exact ⟨0, by omega, Nat.zero_le _, rfl, by rw [HU.out]; exact HN3.out, by rw [HU.out]; exact RowG.refl _ _⟩
     case round =>
      clear x0 x1 x2 x3 x4 x5
      obtain ⟨i, hi, hin, rfl, hNi, hGi⟩ := hrel
      have pt4 : Blk wr Bt 28 _ := (hGi.keep HBtU.out).trans pt3
      obtain ⟨x0, x1, x2, x3, x4, x5⟩ := pt4.six
      have hGw := HG.out.trans hGi
      by_cases hlt : i < n
      ·
       have hi3 : decide (i < n) = true := decide_eq_true hlt
       have hlt2 : i < t.ks.length := by rw [HEQ.out.1]; exact hlt
       obtain ⟨b, o, rfl, hRb0, hk⟩ := HK.out (by omega)
       have hkd := (hk i hlt2).fr (hGw.keep (HR2.out b hRb0)) (fun g hg => hGw.keep (HR2.out g hg))
       have hsn := take_snoc t.ks t0 i hlt2
       have hub := T.kid_bulk HB.out hlt2
       have hbn := HBN.out i hlt2
       obtain ⟨a, ha⟩ : ∃ u, t.ks.getD i t0 = u := ⟨_, rfl⟩
       rw [ha] at hkd hsn hub hbn
       have HSN := Lib.hid hsn
       obtain ⟨B1, e1, B2, e2, B3, e3, h6, hkin⟩ := hkd
       obtain ⟨z0, z1, z2, z3, z4, z5⟩ := h6
       have hcall := ih a wr R (fun b => some b = (Value.slice Ai (bd ++ t.ns).length ci).ownBlock ∧ b < w6.heap.size) _ Ai ci (bd ++ t.ns) (T.frs (t.ks.take i) (bd ++ t.ns) out) u2 base hub (by omega) hkin (fun g hg => hGw.out (HR2.out g hg)) (HBI.out.keep (fun p _ hp hc => (World.cell?_of_block (a := p) (hGi.keep (HRB3.out _ hp))).trans hc) (fun _ h => h)) (fun g hg => hGi.out (HRB3.out g hg)) hbn.1 hbn.2 hNi (Nat.le_trans hbW3 hGi.1.size)
       rw [HNI.out] at hcall
       have HCALL := Lib.hid hcall
       have HGI := Lib.hid hGi
       have hi0 : (0 : Int) ≤ i := by omega
       have hi1 : (i : Int) < n := by omega
       clear hcall hbn hub hsn ha hkin hk hGw hGi hNi
       go_upto_region 10 with (go_at_call 59; refine HCALL.out.mono ?_; rintro e w5 ⟨u5, rfl, hN5, hG5⟩)
       have HN5 := Lib.hid hN5
       have HG5 := Lib.hid (HGI.out.trans hG5)
       clear hN5 hG5 x0 x1 x2 x3 x4 x5 z0 z1 z2 z3 z4 z5
       go_wp2_with fail
       go_roundg (n - i)
       case measure => omega
       case rel => exact ⟨i + 1, by omega, by omega, by go_num, by rw [HSN.out, T.frs_snoc]; exact HN5.out, HG5.out⟩
      · have hi3 : decide (i < n) = false := decide_eq_false hlt
        obtain rfl : i = n := by omega
        have htk : t.ks.take i = t.ks := by rw [← HEQ.out.1, List.take_length]
        rw [htk, ← HFR2.out] at hNi
        have HNI2 := Lib.hid hNi
        have HGW := Lib.hid hGw
        clear hNi hGw hGi htk
        go_wp2_with fail
        go_ret
        exact ⟨u2, rfl, HNI2.out, by rw [HU.out]; exact HGW.out⟩
    by_cases k22 : kk = 22
    ·
     subst k22
     go_enter Tryz.func59, Tryz.ntmps59
     go_upto_region 1 with (fail)
     rw [← HW.out, ← HBT.out]
     have hlen6 : bl + n1 ≤ 4194304 := by omega
     go_upto_region 7 with (at_builtin; refine wpList_append_src _ rfl (.tmp 40) (.tmp 41) 22 rfl W.heap.size 9 i1 (.string ⟨#[]⟩) 1 16 Tryz.underlying22 hinfo1 jz0 jz1 jz2 rfl (by decide) _ 0 [] rfl (World.ownsRow_nil _ _ _ _) A bl c (bd.map Value.string) rfl HBS.out.1 HBS.out.2 (fun u hu => by obtain ⟨s, _, rfl⟩ := List.mem_map.1 hu; rfl) (by unfold maxLen; omega) (by omega) (Nat.le_refl _) ?_; intro v5 w5 hown5 hg5 _; have hV5 := Below.grown (Below.refl W.heap.size W) hg5 (Nat.le_refl _) (fun k hk => by cases hk); clear x0 x1 x2 x3 x4 x5; obtain ⟨x0, x1, x2, x3, x4, x5⟩ := (pt.below hV5).six)
     go_upto_region 8 with (at_builtin; refine wpList_append_src _ rfl (.tmp 43) (.tmp 45) 22 rfl W.heap.size 9 i1 (.string ⟨#[]⟩) 1 16 Tryz.underlying22 hinfo1 jz0 jz1 jz2 rfl (by decide) v5 (0 + bl) ([] ++ bd.map Value.string) rfl hown5 A1 n1 c1 (t.ns.map Value.string) rfl HNS.out.1 (HNS.out.2 _ hV5) (fun u hu => by obtain ⟨s, _, rfl⟩ := List.mem_map.1 hu; rfl) (by unfold maxLen; omega) (by omega) hV5.size ?_; intro v6 w6 hown6 hg6 _; have hV6 := Below.grown hV5 hg6 hV5.size (fun k hk => (World.ownsRow.lt hown5 k hk).1); clear x0 x1 x2 x3 x4 x5; obtain ⟨x0, x1, x2, x3, x4, x5⟩ := (pt.below hV6).six)
     have HBX := Lib.hid hV6
     have hown6' : w6.ownsRow W.heap.size 9 1 v6 (bd ++ t.ns).length ((bd ++ t.ns).map Value.string) := by
      have h := hown6
      rw [List.nil_append, Nat.zero_add, ← List.map_append] at h
      rw [show (bd ++ t.ns).length = bl + n1 by rw [List.length_append, HEQ.out.2.2.1, HEQ.out.2.1]]
      exact h
     obtain ⟨Ai, ci, hv6⟩ := row_form hown6'
     subst hv6
     have hst6 := row_strl hown6'
     have HLT := Lib.hid (fun g (e : (Value.slice Ai (bd ++ t.ns).length ci).ownBlock = some g) => World.ownsRow.lt hown6' g e)
     have HNL : Hid ((bd ++ t.ns).length = bl + n1) := Lib.hid (by rw [List.length_append, HEQ.out.2.2.1, HEQ.out.2.1])
     rw [HNL.out]
     clear hown5 hg5 hown6 hown6' hg6 hV5 hV6
     have HG := Lib.hid (show RowG w w6 U U from RowG.of_below (below_on HB0.out HBX.out) U)
     have HN3 := Lib.hid (show NRow w6 base U out from HOW.out.below HBX.out)
     have HBtU : Hid (some Bt ≠ U.ownBlock ∧ Bt < w6.heap.size) := Lib.hid (⟨fun e => by have := HUL.out Bt e.symm; have := HBT.out; omega, Nat.lt_of_lt_of_le pt.lt (HBX.out).size⟩)
     have pt3 : Blk w6 Bt 28 _ := pt.below HBX.out
     have HBI := Lib.hid (show StrL w6 (fun b => some b = (Value.slice Ai (bd ++ t.ns).length ci).ownBlock ∧ b < w6.heap.size) Ai ci (bd ++ t.ns) from hst6)
     have HRB3 : Hid (∀ g, (fun b => some b = (Value.slice Ai (bd ++ t.ns).length ci).ownBlock ∧ b < w6.heap.size) g → some g ≠ U.ownBlock ∧ g < w6.heap.size) := Lib.hid (fun g hg => ⟨fun e => by have h1 := HUL.out g e.symm; have h2 := (HLT.out g hg.1.symm).1; have := HB0.out.size; omega, hg.2⟩)
     have HNI : Hid ((bd ++ t.ns).length = (bl + n1)) := Lib.hid (HNL.out)
     have HFR2 : Hid (t.fr bd out = T.frs t.ks (bd ++ t.ns) out) := Lib.hid (by rw [HFR.out, if_pos (by omega), if_neg (by omega)])
     have HBN := Lib.hid (fun (i : Nat) (hi : i < t.ks.length) => HLL.out i hi (bd ++ t.ns) out (by rw [List.length_append]; exact Nat.le_refl _) (Nat.le_succ _))
     have hbW3 : base ≤ w6.heap.size := Nat.le_trans hbase HG.out.1.size
     clear hV0 pt x0 x1 x2 x3 x4 x5
     obtain ⟨x0, x1, x2, x3, x4, x5⟩ := pt3.six
     go_wp2_with fail
     go_loopg [2, 8] (n + 1) (fun gq v2 v8 wr => ∃ i : Nat, gq + i = n + 1 ∧ i ≤ n ∧ v8 = .int .i64 (i : Nat) ∧ NRow wr base v2 (T.frs (t.ks.take i) (bd ++ t.ns) out) ∧ RowG w6 wr U v2)
     case atStart => exact ⟨0, by omega, Nat.zero_le _, rfl, by rw [HU.out]; exact HN3.out, by rw [HU.out]; exact RowG.refl _ _⟩
     case round =>
      clear x0 x1 x2 x3 x4 x5
      obtain ⟨i, hi, hin, rfl, hNi, hGi⟩ := hrel
      have pt4 : Blk wr Bt 28 _ := (hGi.keep HBtU.out).trans pt3
      obtain ⟨x0, x1, x2, x3, x4, x5⟩ := pt4.six
      have hGw := HG.out.trans hGi
      by_cases hlt : i < n
      ·
       have hi3 : decide (i < n) = true := decide_eq_true hlt
       have hlt2 : i < t.ks.length := by rw [HEQ.out.1]; exact hlt
       obtain ⟨b, o, rfl, hRb0, hk⟩ := HK.out (by omega)
       have hkd := (hk i hlt2).fr (hGw.keep (HR2.out b hRb0)) (fun g hg => hGw.keep (HR2.out g hg))
       have hsn := take_snoc t.ks t0 i hlt2
       have hub := T.kid_bulk HB.out hlt2
       have hbn := HBN.out i hlt2
       obtain ⟨a, ha⟩ : ∃ u, t.ks.getD i t0 = u := ⟨_, rfl⟩
       rw [ha] at hkd hsn hub hbn
       have HSN := Lib.hid hsn
       obtain ⟨B1, e1, B2, e2, B3, e3, h6, hkin⟩ := hkd
       obtain ⟨z0, z1, z2, z3, z4, z5⟩ := h6
       have hcall := ih a wr R (fun b => some b = (Value.slice Ai (bd ++ t.ns).length ci).ownBlock ∧ b < w6.heap.size) _ Ai ci (bd ++ t.ns) (T.frs (t.ks.take i) (bd ++ t.ns) out) u2 base hub (by omega) hkin (fun g hg => hGw.out (HR2.out g hg)) (HBI.out.keep (fun p _ hp hc => (World.cell?_of_block (a := p) (hGi.keep (HRB3.out _ hp))).trans hc) (fun _ h => h)) (fun g hg => hGi.out (HRB3.out g hg)) hbn.1 hbn.2 hNi (Nat.le_trans hbW3 hGi.1.size)
       rw [HNI.out] at hcall
       have HCALL := Lib.hid hcall
       have HGI := Lib.hid hGi
       have hi0 : (0 : Int) ≤ i := by omega
       have hi1 : (i : Int) < n := by omega
       clear hcall hbn hub hsn ha hkin hk hGw hGi hNi
       go_upto_region 10 with (go_at_call 59; refine HCALL.out.mono ?_; rintro e w5 ⟨u5, rfl, hN5, hG5⟩)
       have HN5 := Lib.hid hN5
       have HG5 := Lib.hid (HGI.out.trans hG5)
       clear hN5 hG5 x0 x1 x2 x3 x4 x5 z0 z1 z2 z3 z4 z5
       go_wp2_with fail
       go_roundg (n - i)
       case measure => omega
       case rel => exact ⟨i + 1, by omega, by omega, by go_num, by rw [HSN.out, T.frs_snoc]; exact HN5.out, HG5.out⟩
      · have hi3 : decide (i < n) = false := decide_eq_false hlt
        obtain rfl : i = n := by omega
        have htk : t.ks.take i = t.ks := by rw [← HEQ.out.1, List.take_length]
        rw [htk, ← HFR2.out] at hNi
        have HNI2 := Lib.hid hNi
        have HGW := Lib.hid hGw
        clear hNi hGw hGi htk
        go_wp2_with fail
        go_ret
        exact ⟨u2, rfl, HNI2.out, by rw [HU.out]; exact HGW.out⟩
    go_enter Tryz.func59, Tryz.ntmps59
    go_upto_region 1 with (fail)
    rw [← HW.out, ← HBT.out]
    have d2 : (kk == 2) = false := by simpa using k2
    have d21 : (kk == 21) = false := by simpa using k21
    have d22 : (kk == 22) = false := by simpa using k22
    go_upto_region 8 with (fail)
    have HBX := Lib.hid (Below.refl W.heap.size W)
    have HG := Lib.hid (show RowG w W U U from RowG.of_below (below_on HB0.out HBX.out) U)
    have HN3 := Lib.hid (show NRow W base U out from HOW.out.below HBX.out)
    have HBtU : Hid (some Bt ≠ U.ownBlock ∧ Bt < W.heap.size) := Lib.hid (⟨fun e => by have := HUL.out Bt e.symm; have := HBT.out; omega, Nat.lt_of_lt_of_le pt.lt (HBX.out).size⟩)
    have pt3 : Blk W Bt 28 _ := pt.below HBX.out
    have HBI := Lib.hid (show StrL W Rb A c bd from HBD.out.keep (fun p _ hp hc => (World.cell?_of_block (a := p) (HG.out.keep (HRB2.out _ hp))).trans hc) (fun _ h => h))
    have HRB3 : Hid (∀ g, Rb g → some g ≠ U.ownBlock ∧ g < W.heap.size) := Lib.hid (fun g hg => HG.out.out (HRB2.out g hg))
    have HNI : Hid (bd.length = bl) := Lib.hid (HEQ.out.2.2.1)
    have HFR2 : Hid (t.fr bd out = T.frs t.ks bd out) := Lib.hid (by rw [HFR.out, if_neg (by omega), if_neg (by omega)])
    have HBN := Lib.hid (fun (i : Nat) (hi : i < t.ks.length) => HLL.out i hi bd out (Nat.le_add_right _ _) (Nat.le_succ _))
    have hbW3 : base ≤ W.heap.size := Nat.le_trans hbase HG.out.1.size
    clear hV0 pt x0 x1 x2 x3 x4 x5
    obtain ⟨x0, x1, x2, x3, x4, x5⟩ := pt3.six
    go_wp2_with fail
    go_loopg [2, 8] (n + 1) (fun gq v2 v8 wr => ∃ i : Nat, gq + i = n + 1 ∧ i ≤ n ∧ v8 = .int .i64 (i : Nat) ∧ NRow wr base v2 (T.frs (t.ks.take i) bd out) ∧ RowG W wr U v2)
    case atStart => exact ⟨0, by omega, Nat.zero_le _, rfl, by rw [HU.out]; exact HN3.out, by rw [HU.out]; exact RowG.refl _ _⟩
    case round =>
     clear x0 x1 x2 x3 x4 x5
     obtain ⟨i, hi, hin, rfl, hNi, hGi⟩ := hrel
     have pt4 : Blk wr Bt 28 _ := (hGi.keep HBtU.out).trans pt3
     obtain ⟨x0, x1, x2, x3, x4, x5⟩ := pt4.six
     have hGw := HG.out.trans hGi
     by_cases hlt : i < n
     ·
      have hi3 : decide (i < n) = true := decide_eq_true hlt
      have hlt2 : i < t.ks.length := by rw [HEQ.out.1]; exact hlt
      obtain ⟨b, o, rfl, hRb0, hk⟩ := HK.out (by omega)
      have hkd := (hk i hlt2).fr (hGw.keep (HR2.out b hRb0)) (fun g hg => hGw.keep (HR2.out g hg))
      have hsn := take_snoc t.ks t0 i hlt2
      have hub := T.kid_bulk HB.out hlt2
      have hbn := HBN.out i hlt2
      obtain ⟨a, ha⟩ : ∃ u, t.ks.getD i t0 = u := ⟨_, rfl⟩
      rw [ha] at hkd hsn hub hbn
      have HSN := Lib.hid hsn
      obtain ⟨B1, e1, B2, e2, B3, e3, h6, hkin⟩ := hkd
      obtain ⟨z0, z1, z2, z3, z4, z5⟩ := h6
      have hcall := ih a wr R Rb _ A c bd (T.frs (t.ks.take i) bd out) u2 base hub (by omega) hkin (fun g hg => hGw.out (HR2.out g hg)) (HBI.out.keep (fun p _ hp hc => (World.cell?_of_block (a := p) (hGi.keep (HRB3.out _ hp))).trans hc) (fun _ h => h)) (fun g hg => hGi.out (HRB3.out g hg)) hbn.1 hbn.2 hNi (Nat.le_trans hbW3 hGi.1.size)
      rw [HNI.out] at hcall
      have HCALL := Lib.hid hcall
      have HGI := Lib.hid hGi
      have hi0 : (0 : Int) ≤ i := by omega
      have hi1 : (i : Int) < n := by omega
      clear hcall hbn hub hsn ha hkin hk hGw hGi hNi
      go_upto_region 10 with (go_at_call 59; refine HCALL.out.mono ?_; rintro e w5 ⟨u5, rfl, hN5, hG5⟩)
      have HN5 := Lib.hid hN5
      have HG5 := Lib.hid (HGI.out.trans hG5)
      clear hN5 hG5 x0 x1 x2 x3 x4 x5 z0 z1 z2 z3 z4 z5
      go_wp2_with fail
      go_roundg (n - i)
      case measure => omega
      case rel => exact ⟨i + 1, by omega, by omega, by go_num, by rw [HSN.out, T.frs_snoc]; exact HN5.out, HG5.out⟩
     ·
      have hi3 : decide (i < n) = false := decide_eq_false hlt
      obtain rfl : i = n := by omega
      have htk : t.ks.take i = t.ks := by rw [← HEQ.out.1, List.take_length]
      rw [htk, ← HFR2.out] at hNi
      have HNI2 := Lib.hid hNi
      have HGW := Lib.hid hGw
      clear hNi hGw hGi htk
      go_wp2_with fail
      go_ret
      exact ⟨u2, rfl, HNI2.out, by rw [HU.out]; exact HGW.out⟩
end
end Go.Proofs.YthiadenmljbdaaaGreatDoor
