/-
  riddleref01.Trim, at, Cmp: contracts (for the store).
-/
import Derived.Test.YtmncamnlmpajbaaMem
import Derived.Test.YtmncamnlmpajbaaRefMath
import Derived.Test.YtmncamnlmpajbaaShelf
import Derived.Laws.CopyOwn
namespace Go.Proofs.Ytmncamnlmpajbaa
open Go.RowKit
theorem byte_at {S : ByteArray} {i : Nat} (h : i < S.size) : S.data.toList[i]? = some (S[i]'h) := by
  rw [Array.getElem?_toList]; exact Array.getElem?_eq_getElem h
theorem size_list (S : ByteArray) : S.data.toList.length = S.size := Array.length_toList

theorem not_empty {S : ByteArray} (h : 0 < S.size) : S.toList.isEmpty = false ∧ S.toList ≠ [] := by
  have h1 : S.toList ≠ [] := by
    rw [ByteArray.toList_eq]
    intro e
    have := congrArg List.length e
    rw [Array.length_toList] at this
    exact absurd this (by show ¬ S.size = 0; omega)
  refine ⟨?_, h1⟩
  cases hh : S.toList with
  | nil => exact absurd hh h1
  | cons _ _ => rfl
theorem info_u32 : (Try.prog.info? 75).map (fun i => (i.zero, i.size, i.bytes)) = some (some (.int .u32 0), 1, 4) := by kernel_rfl

/-- v is a slice that reads as limbs of the number x, at most K of them. -/
def Val (w : World) (v : Value) (K x : Nat) : Prop := ∃ A n c l, v = .slice A n c ∧ Sl w A n c l ∧ N.nv l = x ∧ n ≤ K
/-- The same of the bare list. -/
def Bar (w : World) (v : Value) (K x : Nat) : Prop := ∃ A n c, v = .slice A n c ∧ Sl w A n c (N.ofN x) ∧ n ≤ K
/-- v is the bare list of x, in memory made since w. -/
def Fre (w w' : World) (v : Value) (K x : Nat) : Prop := ∃ g n c, v = .slice (some ⟨g, 0, none⟩) n c ∧ Own w' w.heap.size g n c (N.ofN x) ∧ n ≤ K

section
variable {w w' : World} {v : Value} {K x : Nat}
theorem Val.below (h : Val w v K x) (hb : Below w.heap.size w w') : Val w' v K x := by
  obtain ⟨A, n, c, l, e, hs, hx, hn⟩ := h
  exact ⟨A, n, c, l, e, hs.below hb, hx, hn⟩
theorem Bar.below (h : Bar w v K x) (hb : Below w.heap.size w w') : Bar w' v K x := by
  obtain ⟨A, n, c, e, hs, hn⟩ := h
  exact ⟨A, n, c, e, hs.below hb, hn⟩
theorem Bar.val (h : Bar w v K x) : Val w v K x := by
  obtain ⟨A, n, c, e, hs, hn⟩ := h
  exact ⟨A, n, c, _, e, hs, N.nv_ofN x, hn⟩
theorem Fre.bar (h : Fre w w' v K x) : Bar w' v K x := by
  obtain ⟨g, n, c, e, ho, hn⟩ := h
  exact ⟨_, n, c, e, ho.sl, hn⟩
theorem Val.lt (h : Val w v K x) : x < 4294967296 ^ K := by
  obtain ⟨A, n, c, l, e, hs, hx, hn⟩ := h
  have h1 := N.nv_lt hs.lim
  rw [hs.len, hx] at h1
  exact Nat.lt_of_lt_of_le h1 (Nat.pow_le_pow_right (by omega) hn)
theorem fre_of {g n c : Nat} (ho : Own w' w.heap.size g n c (N.ofN x)) (h : x < 4294967296 ^ K) : Fre w w' (.slice (some ⟨g, 0, none⟩) n c) K x :=
  ⟨g, n, c, rfl, ho, by rw [← ho.len]; exact N.ofN_length_le h⟩
end

theorem lv_take (l : List Nat) (k : Nat) : lv (l.take k) = (lv l).take k := by simp [lv, List.map_take]
theorem lv_splice (l r : List Nat) (k : Nat) : lv (splice l k r) = splice (lv l) k (lv r) := by
  simp [lv, splice, List.map_take, List.map_drop]
theorem splice_all (n : Nat) (r : List Nat) (h : r.length = n) : splice (List.replicate n 0) 0 r = r := by
  simp [splice, h]
theorem N.Lim.splice {l r : List Nat} (hl : N.Lim l) (hr : N.Lim r) (k : Nat) : N.Lim (Go.splice l k r) := (hl.take k).app (hr.app (hl.drop _))
theorem take_splice {α : Type} (L : List α) (off : Nat) (cs : List α) (n : Nat) (h : off + cs.length ≤ n) : (splice L off cs).take n = splice (L.take n) off cs := by
  unfold splice
  apply List.ext_getElem?
  intro k
  simp only [List.getElem?_append, List.getElem?_take, List.getElem?_drop, List.length_take]
  grind

/-- A guard: the walk stands at a copy. -/
theorem at_copy {P : Program} {w : World} {ops : Array Oper} {rest : List Oper} {dst : Option Tmp} {A : Array Operand} {T : Array TypeId} {ty : TypeId} {p : String} {af : Array Edge} {g : Option (Nat × Bool)} {a : Act} {Q : Exit → Act → World → Prop}
    (h : wpList P ops Q (⟨dst, .call { callee := .builtin .copy, args := A, argTypes := T }, ty, p, af, g⟩ :: rest) a w) : wpList P ops Q (⟨dst, .call { callee := .builtin .copy, args := A, argTypes := T }, ty, p, af, g⟩ :: rest) a w := h

/-- 'copy(dst, src)' of limbs, dst in a row of the call's own. -/
theorem wpList_copy_lim {P : Program} {w : World} {ops : Array Oper} {rest : List Oper} {o : Oper} {a : Act} {Q : Exit → Act → World → Prop} (hgd : o.guard = none) (d s : Operand) (dT sT : TypeId)
    (ho : o.op = .call { callee := .builtin .copy, args := #[d, s], argTypes := #[dT, sT] }) (hu : P.underlying dT = some (.slice 75)) (hsz : (P.info? 75).map (·.size) = some 1)
    (dp sp : Option Addr) (dLen dCap sLen sCap : Nat) (hd : a.eval d = .slice dp dLen dCap) (hs : a.eval s = .slice sp sLen sCap)
    (base g n c off : Nat) (l : List Nat) (hown : Own w base g n c l) (r : List Nat) (hsrc : Sl w sp sLen sCap r) (k : Nat) (hk : k = Nat.min sLen dLen) (hdp : 0 < k → dp = some ⟨g, off, none⟩) (hfit : off + k ≤ n)
    (ys : List Nat) (hys : splice l off (r.take k) = ys)
    (B : Nat) (w0 : World) (hb : Below B w0 w) (hBg : B ≤ g)
    (h : ∀ w', Own w' base g n c ys → Below B w0 w' → wpList P ops Q rest (a.put o.dst (goInt k)) w') :
    wpList P ops Q (o :: rest) a w := by
  subst hys
  have hl := hown.len
  have hsl := hsrc.len
  have hks : k ≤ sLen := by rw [hk]; exact Nat.min_le_left _ _
  have hlk : (r.take k).length = k := by rw [List.length_take]; omega
  rcases hown.own.2 with ⟨e, _⟩ | ⟨g', cap, cur, e, a1, a2, a3, a4, a5, a6⟩
  · cases e
  injection e with e1 e2 e3
  injection e1 with e1; injection e1 with e1
  subst e1; subst e3
  have hcl : (lv (r.take k)).length = k := by rw [lv_length, hlk]
  have hcs : cur.size = c := by omega
  refine wpList_copy_splice hgd d s dT sT ho _ hu hsz dp sp dLen dCap sLen sCap hd hs g off cur.toList _ (by simpa using a2) (lv (r.take k)) (by rw [hcl, hk]) ?_ (by rw [hcl, Array.length_toList]; omega) (lv_oneCell _) B w0 hb hBg ?_
  · intro h0
    rw [hcl] at h0
    refine ⟨hdp h0, ?_⟩
    obtain ⟨ad, e, hc⟩ := hsrc.news (by omega)
    refine ⟨ad, e, fun j v hv => hc j v ?_⟩
    rw [lv_take] at hv
    rw [List.getElem?_take] at hv
    split at hv
    · exact hv
    · cases hv
  · intro w' hg hb'
    have hg := hg.out
    rw [hcl]
    refine h w' ⟨⟨?_, .inr ⟨g, c, _, rfl, a1, hg, a3, a4, ?_, ?_⟩⟩, N.Lim.splice hown.lim (hsrc.lim.take k) off, full_of_ints hg ?_ ?_⟩ hb'
    · rw [lv_length, length_splice _ _ _ (by omega)]; omega
    · rw [List.size_toArray, length_splice _ _ _ (by rw [hcl, Array.length_toList]; omega), Array.length_toList]; omega
    · rw [lv_splice, ← a6, List.toList_toArray, take_splice _ _ _ _ (by omega)]
    · have hi := ints_of_full a2 hown.full (by omega)
      intro u hu
      rw [List.toList_toArray] at hu
      simp only [splice, List.mem_append] at hu
      rcases hu with hu | hu | hu
      · exact hi u (List.mem_of_mem_take hu)
      · exact ints_lv _ u hu
      · exact hi u (List.mem_of_mem_drop hu)
    · rw [List.size_toArray, length_splice _ _ _ (by rw [hcl, Array.length_toList]; omega), Array.length_toList]; omega

/-- A row of limbs of the call's own, nil at first. -/
structure Out (w : World) (base : Nat) (v : Value) (l : List Nat) : Prop where
  own : w.ownsRow base 75 1 v l.length (lv l)
  lim : N.Lim l
section
variable {w w' : World} {base : Nat} {v : Value} {l : List Nat}
theorem Out.nil (w : World) (base : Nat) : Out w base (.slice none 0 0) [] := ⟨World.ownsRow_nil _ _ _ _, N.Lim.nil⟩
theorem Out.kept (h : Out w base v l) {row : Option Nat} (hg : w.grownBy w' row) (hne : v.ownBlock = none ∨ v.ownBlock ≠ row) : Out w' base v l := ⟨h.own.kept hg hne, h.lim⟩
theorem Out.below (h : Out w base v l) (hb : Below w.heap.size w w') : Out w' base v l :=
  h.kept (gb_of_below hb none) (by cases v.ownBlock <;> simp)
theorem Out.drewN (h : Out w base v l) (k : Nat) : Out (w.drewN k) base v l := ⟨h.own, h.lim⟩
theorem Out.sl (h : Out w base v l) : ∃ A c, v = .slice A l.length c ∧ Sl w A l.length c l := by
  rcases h.own.2 with ⟨rfl, h0⟩ | ⟨g, cap, cur, rfl, _, _, hle, _⟩
  · have := List.eq_nil_of_length_eq_zero h0
    subst this
    exact ⟨none, 0, rfl, Sl.nil _ _ _⟩
  · refine ⟨some ⟨g, 0, none⟩, cap, rfl, rfl, hle, h.lim, fun _ => ⟨g, 0, rfl, fun k hk => ?_⟩⟩
    rw [Nat.zero_add, h.own.cellAt k (by omega), lv_get l k hk]
end
theorem cell1 {w : World} {X : Int} {z : Nat} {g : Nat} (hg : g = w.heap.size) (h : X = (z : Nat)) : (w.alloc (.cells #[.int .u32 X] 75)).cell? ⟨g, 0, none⟩ = some (.int .u32 (z : Nat)) := by
  subst h; subst hg
  rw [cell_of_row _ _ _ _ _ _ (heap_alloc_new w _)]
  rfl
theorem out_alloc {w : World} {base : Nat} {v : Value} {l : List Nat} (h : Out w base v l) (o : Obj) : Out (w.alloc o) base v l := h.below ((Below.refl _ _).alloc (Nat.le_refl _) _)
theorem out_below {w wr w2 : World} {base : Nat} {v : Value} {l : List Nat} {o : Obj} (hb : Below base w wr) (hown : Out wr base v l) (hbase : base ≤ wr.heap.size) (hgr : (wr.alloc o).grownBy w2 v.ownBlock) : Below base w w2 :=
  (hb.alloc hbase _).grown hgr (by simp; omega) (fun k hk => (hown.own.lt k hk).1)
/-- 'append(out, x)', x laid in a list of its own. -/
theorem wpList_append_out {P : Program} (w : World) {ops : Array Oper} {rest : List Oper} {o : Oper} {a : Act} {Q : Exit → Act → World → Prop} (hgd : o.guard = none) (s x : Operand) (t : TypeId)
    (ho : o.op = .call { callee := .builtin .append, args := #[s, x], argTypes := #[t, t] })
    (base : Nat) (i : TypeInfo) (ht : P.underlying t = some (.slice 75)) (hi : P.info? 75 = some i) (hz : i.zero = some (.int .u32 0)) (hsize : i.size = 1) (hby : i.bytes = 4)
    (v : Value) (l : List Nat) (hs : a.eval s = v) (hown : Out w base v l)
    (g c z : Nat) (hx : a.eval x = .slice (some ⟨g, 0, none⟩) 1 c) (hzl : z < 4294967296) (hcell : w.cell? ⟨g, 0, none⟩ = some (.int .u32 (z : Nat)))
    (hb : l.length < 35184372088832) (hbase : base ≤ w.heap.size)
    (h : ∀ v' w', Out w' base v' (l ++ [z]) → w.grownBy w' v.ownBlock → wpList P ops Q rest (a.put o.dst v') w') : wpList P ops Q (o :: rest) a w := by
  refine wpList_append_src w hgd s x t ho base _ i (.int .u32 0) 1 4 ht hi hz hsize hby rfl (by omega) v l.length (lv l) hs hown.own (some ⟨g, 0, none⟩) 1 c (lv [z]) hx rfl ?_ (lv_oneCell _) (by unfold maxLen; omega) (by omega) hbase ?_
  · intro _
    refine ⟨_, rfl, fun j u hu => ?_⟩
    have hj : j = 0 := by have := (List.getElem?_eq_some_iff.1 hu).1; simpa [lv] using this
    subst hj
    rw [Addr.add_lit]
    have e : u = .int .u32 (z : Nat) := by simpa [lv] using hu.symm
    rw [e]; exact hcell
  · intro v' w' h2 h3 _
    refine h v' w' ⟨by rw [List.length_append]; rw [lv_append]; exact h2, hown.lim.app (N.Lim.cons hzl N.Lim.nil)⟩ h3
theorem info_size32 : (Try.prog.info? 75).map (·.size) = some 1 := by kernel_rfl

set_option maxRecDepth 100000 in
set_option maxHeartbeats 400000 in
theorem rtrim_any (w : World) (A : Option Addr) (n c : Nat) (l : List Nat) (h : Sl w A n c l) (hm : n ≤ 35184372088832) :
    Calls Try.prog 75 #[.slice A n c] w fun e w' => ∃ g n' c', e = .returned (.slice (some ⟨g, 0, none⟩) n' c') ∧ Own w' w.heap.size g n' c' (N.ofN (N.nv l)) ∧ Below w.heap.size w w' := by
  obtain ⟨i0, hi, hz0, hz1, hz2⟩ := info_parts info_u32
  have hcap := h.cap
  have hlen := h.len
  have HLEN := Lib.hid hlen
  clear hlen
  go_enter Try.func75, Try.ntmps75
  go_wp2_with fail
  go_loop [3] (fun v => ∃ k : Nat, k ≤ n ∧ v = .int .i64 k ∧ ∀ j, k ≤ j → j < n → N.dg l j = 0) (fun v => (intOf v).toNat)
  case atStart => exact ⟨n, Nat.le_refl _, rfl, fun j h1 h2 => by omega⟩
  case round =>
    obtain ⟨k, hk, rfl, hz⟩ := hrel
    have HZ := Lib.hid hz
    clear hz
    by_cases hk0 : k = 0
    · subst hk0
      have e : l.take 0 = N.ofN (N.nv l) := N.take_bare h.lim (by omega) (fun j h1 h2 => HZ.out j h1 (by rw [HLEN.out] at h2; exact h2)) (.inl rfl)
      have E := Lib.hid e
      clear e
      go_wp2_with (first
        | (at_make; refine wpList_make_lim _ rfl (.tmp 19) (.tmp 19) 30 rfl i0 Try.underlying30 hi hz0 hz1 hz2 .i64 .i64 _ _ 0 rfl rfl (by omega) (by omega) (by omega) ?_; intro w1 ho1 hb1; have hs1 := h.below hb1)
        | (with_reducible refine at_copy ?_; refine wpList_copy_lim rfl (.tmp 21) (.tmp 22) _ _ rfl Try.underlying30 info_size32 _ _ _ _ _ _ rfl rfl _ _ _ _ 0 _ ho1 l hs1 0 (by simp) (fun _ => rfl) (by omega) (N.ofN (N.nv l)) (by rw [← E.out]; exact splice_all _ _ (by simp)) w.heap.size w hb1 (Nat.le_refl _) ?_; intro w2 ho2 hb2))
      go_ret
      exact ⟨_, _, _, rfl, ho2, hb2⟩
    · obtain ⟨b, o, rfl, hc⟩ := h.cells (by omega)
      have hck := hc (k - 1) (by omega)
      clear hc
      by_cases hd : N.dg l (k - 1) = 0
      · have ht : ((N.dg l (k - 1) : Int) == 0) = true := by simpa using hd
        have HD := Lib.hid hd
        clear hd
        go_wp2_with fail
        go_round
        case rel =>
          refine ⟨k - 1, by omega, by go_num, fun j h1 h2 => ?_⟩
          rcases Nat.lt_or_ge j k with h3 | h3
          · obtain rfl : j = k - 1 := by omega
            exact HD.out
          · exact HZ.out j h3 h2
        case measure => simp [intOf]; omega
      · have ht : ((N.dg l (k - 1) : Int) == 0) = false := by simpa using hd
        have e : l.take k = N.ofN (N.nv l) := N.take_bare h.lim (by rw [HLEN.out]; exact hk) (fun j h1 h2 => HZ.out j h1 (by rw [HLEN.out] at h2; exact h2)) (.inr hd)
        have E := Lib.hid e
        clear e hd
        go_wp2_with (first
          | (at_make; refine wpList_make_lim _ rfl (.tmp 19) (.tmp 19) 30 rfl i0 Try.underlying30 hi hz0 hz1 hz2 .i64 .i64 _ _ k rfl rfl (by omega) (by omega) (by omega) ?_; intro w1 ho1 hb1; have hs1 := h.below hb1)
          | (with_reducible refine at_copy ?_; refine wpList_copy_lim rfl (.tmp 21) (.tmp 22) _ _ rfl Try.underlying30 info_size32 _ _ _ _ _ _ rfl rfl _ _ _ _ 0 _ ho1 l hs1 k (Nat.min_eq_right hk).symm (fun _ => rfl) (by omega) (N.ofN (N.nv l)) (by rw [← E.out]; exact splice_all _ _ (by rw [List.length_take, HLEN.out]; omega)) w.heap.size w hb1 (Nat.le_refl _) ?_; intro w2 ho2 hb2))
        go_ret
        exact ⟨_, _, _, rfl, ho2, hb2⟩

theorem at_any (w : World) (A : Option Addr) (n c : Nat) (l : List Nat) (h : Sl w A n c l) (hm : n ≤ 9223372036854775807) (i : Nat) (hi : i ≤ 9223372036854775807) :
    Calls Try.prog 76 #[.slice A n c, .int .i64 i] w fun e w' => e = .returned (.int .u64 (N.dg l i : Nat)) ∧ w = w' := by
  have hx := N.dg_lt h.lim i
  go_enter Try.func76, Try.ntmps76
  by_cases hin : i < n
  · obtain ⟨b, o, rfl, hc⟩ := h.cells (by omega)
    have hci := hc i hin
    clear hc
    go_wp2_with fail
    go_ret
    exact ⟨rfl, rfl⟩
  · have e : N.dg l i = 0 := N.dg_ge _ _ (by rw [h.len]; omega)
    rw [e]
    clear e hx
    go_wp2_with fail
    go_ret
    exact ⟨rfl, rfl⟩
set_option maxHeartbeats 1600000 in
theorem rcmp_any (w : World) (A : Option Addr) (n c : Nat) (a : List Nat) (B : Option Addr) (m d : Nat) (b : List Nat) (ha : Sl w A n c a) (hb : Sl w B m d b) (hn : n ≤ 35184372088832) (hm : m ≤ 35184372088832) :
    Calls Try.prog 56 #[.slice A n c, .slice B m d] w fun e w' => e = .returned (.int .i64 (N.cmpN (N.nv a) (N.nv b))) ∧ w = w' := by
  have hla := ha.len
  have hlb := hb.len
  have HLA := Lib.hid hla
  have HLB := Lib.hid hlb
  clear hla hlb
  go_enter Try.func56, Try.ntmps56
  go_wp2_with fail
  go_loop [5, 6] (fun v5 v6 => ∃ (k : Nat) (s : Int), (k ≤ n ∨ k ≤ m) ∧ v6 = .int .i64 k ∧ v5 = .int .i64 s ∧ s = N.cmpN (N.nv (a.take k)) (N.nv (b.take k))) (fun _ v6 => n + m - (intOf v6).toNat)
  case atStart => exact ⟨0, 0, by omega, rfl, rfl, rfl⟩
  case round =>
    obtain ⟨k, s, hk, rfl, rfl, hs⟩ := hrel
    have HS := Lib.hid hs
    clear hs
    have hstep := N.cmp_take ha.lim hb.lim k
    have HST := Lib.hid hstep
    clear hstep
    rcases (show (k < n ∨ (n ≤ k ∧ k < m)) ∨ (n ≤ k ∧ m ≤ k) by omega) with h1 | ⟨h1, h2⟩
    · obtain ⟨p, hp⟩ : ∃ p, N.dg a k = p := ⟨_, rfl⟩
      obtain ⟨q, hq⟩ : ∃ q, N.dg b k = q := ⟨_, rfl⟩
      have HP := Lib.hid hp
      have HQ := Lib.hid hq
      clear hp hq
      have hst := HST.out
      rw [HP.out, HQ.out, ← HS.out] at hst
      have key : ∀ r : Int, r = N.cmpN (N.nv (a.take (k + 1))) (N.nv (b.take (k + 1))) → ∃ (k' : Nat) (s' : Int), (k' ≤ n ∨ k' ≤ m) ∧ Value.int .i64 ((k : Int) + 1) = .int .i64 k' ∧ Value.int .i64 r = .int .i64 s' ∧ s' = N.cmpN (N.nv (a.take k')) (N.nv (b.take k')) :=
        fun r hr => ⟨k + 1, r, by omega, by go_num, rfl, hr⟩
      clear HST HS
      rcases Nat.lt_trichotomy p q with hpq | hpq | hpq
      · rw [if_pos hpq] at hst
        have KEY := Lib.hid (key _ hst.symm)
        clear hst key
        have t1 : decide ((p : Int) < (q : Int)) = true := decide_eq_true (by omega)
        have t2 : decide ((p : Int) > (q : Int)) = false := decide_eq_false (by omega)
        have t3 : decide ((q : Int) < (p : Int)) = false := decide_eq_false (by omega)
        rcases h1 with h1 | ⟨h1, h2⟩
        all_goals
          go_wp2_with fail
          refine (at_any _ A n c a ha (by omega) k (by omega)).mono ?_
          rintro e w' ⟨rfl, rfl⟩
          rw [HP.out]
          go_wp2_with fail
          refine (at_any _ B m d b hb (by omega) k (by omega)).mono ?_
          rintro e w' ⟨rfl, rfl⟩
          rw [HQ.out]
          go_wp2_with fail
          refine (at_any _ A n c a ha (by omega) k (by omega)).mono ?_
          rintro e w' ⟨rfl, rfl⟩
          rw [HP.out]
          go_wp2_with fail
          refine (at_any _ B m d b hb (by omega) k (by omega)).mono ?_
          rintro e w' ⟨rfl, rfl⟩
          rw [HQ.out]
          go_wp2_with fail
          go_round
          case rel => exact KEY.out
          case measure => simp [intOf]; omega
      · subst hpq
        rw [if_neg (by omega), if_neg (by omega)] at hst
        have KEY := Lib.hid (key _ hst.symm)
        clear hst key
        have t1 : decide ((p : Int) < (p : Int)) = false := decide_eq_false (by omega)
        have t2 : decide ((p : Int) > (p : Int)) = false := decide_eq_false (by omega)
        rcases h1 with h1 | ⟨h1, h2⟩
        all_goals
          go_wp2_with fail
          refine (at_any _ A n c a ha (by omega) k (by omega)).mono ?_
          rintro e w' ⟨rfl, rfl⟩
          rw [HP.out]
          go_wp2_with fail
          refine (at_any _ B m d b hb (by omega) k (by omega)).mono ?_
          rintro e w' ⟨rfl, rfl⟩
          rw [HQ.out]
          go_wp2_with fail
          refine (at_any _ A n c a ha (by omega) k (by omega)).mono ?_
          rintro e w' ⟨rfl, rfl⟩
          rw [HP.out]
          go_wp2_with fail
          refine (at_any _ B m d b hb (by omega) k (by omega)).mono ?_
          rintro e w' ⟨rfl, rfl⟩
          rw [HQ.out]
          go_wp2_with fail
          go_round
          case rel => exact KEY.out
          case measure => simp [intOf]; omega
      · rw [if_neg (by omega), if_pos hpq] at hst
        have KEY := Lib.hid (key _ hst.symm)
        clear hst key
        have t1 : decide ((p : Int) < (q : Int)) = false := decide_eq_false (by omega)
        have t2 : decide ((p : Int) > (q : Int)) = true := decide_eq_true (by omega)
        have t3 : decide ((q : Int) < (p : Int)) = true := decide_eq_true (by omega)
        rcases h1 with h1 | ⟨h1, h2⟩
        all_goals
          go_wp2_with fail
          refine (at_any _ A n c a ha (by omega) k (by omega)).mono ?_
          rintro e w' ⟨rfl, rfl⟩
          rw [HP.out]
          go_wp2_with fail
          refine (at_any _ B m d b hb (by omega) k (by omega)).mono ?_
          rintro e w' ⟨rfl, rfl⟩
          rw [HQ.out]
          go_wp2_with fail
          refine (at_any _ A n c a ha (by omega) k (by omega)).mono ?_
          rintro e w' ⟨rfl, rfl⟩
          rw [HP.out]
          go_wp2_with fail
          refine (at_any _ B m d b hb (by omega) k (by omega)).mono ?_
          rintro e w' ⟨rfl, rfl⟩
          rw [HQ.out]
          go_wp2_with fail
          go_round
          case rel => exact KEY.out
          case measure => simp [intOf]; omega
    · go_wp2_with fail
      go_ret
      have e := HS.out
      rw [N.take_all (by rw [HLA.out]; exact h1), N.take_all (by rw [HLB.out]; exact h2)] at e
      rw [e]
      exact ⟨rfl, rfl⟩
end Go.Proofs.Ytmncamnlmpajbaa
