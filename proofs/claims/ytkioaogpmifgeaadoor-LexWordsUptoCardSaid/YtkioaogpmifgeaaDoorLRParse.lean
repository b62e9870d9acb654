/-
  riddleref01.Parse: contract (for the words).
-/
import Derived.Test.YtkioaogpmifgeaaDoorLParse
import Derived.Test.YtkioaogpmifgeaaDoorRefMath
import Derived.Laws.CopyOwn
namespace Go.Proofs.YtkioaogpmifgeaaDoor
open Go.RowKit
theorem mul_cast_le {x y : Nat} (h : x * y ≤ 18446744065119617025) : (x : Int) * (y : Int) ≤ 18446744065119617025 := by
  rw [← Int.natCast_mul]; omega
theorem mul_cast_nonneg (x y : Nat) : 0 ≤ (x : Int) * (y : Int) := by
  rw [← Int.natCast_mul]; omega

/-- v is a slice that reads as limbs of the number x, at most K of them. -/
def Val (w : World) (v : Value) (K x : Nat) : Prop := ∃ A n c l, v = .slice A n c ∧ Sl w A n c l ∧ N.nv l = x ∧ n ≤ K
/-- The same of the bare list. -/
def Bar (w : World) (v : Value) (K x : Nat) : Prop := ∃ A n c, v = .slice A n c ∧ Sl w A n c (N.ofN x) ∧ n ≤ K
/-- v is the bare list of x, in memory made since w. -/
def Fre (w w' : World) (v : Value) (K x : Nat) : Prop := ∃ g n c, v = .slice (some ⟨g, 0, none⟩) n c ∧ Own w' w.heap.size g n c (N.ofN x) ∧ n ≤ K

section
variable {w w' : World} {v : Value} {K x : Nat}
theorem Val.below (h : Val w v K x) (hb : Below w.heap.size w w') : Val w' v K x := by
  obtain ⟨A, n, c, l, e, hs, hx, hn⟩ := h
  exact ⟨A, n, c, l, e, hs.below hb, hx, hn⟩
theorem Bar.below (h : Bar w v K x) (hb : Below w.heap.size w w') : Bar w' v K x := by
  obtain ⟨A, n, c, e, hs, hn⟩ := h
  exact ⟨A, n, c, e, hs.below hb, hn⟩
theorem Bar.val (h : Bar w v K x) : Val w v K x := by
  obtain ⟨A, n, c, e, hs, hn⟩ := h
  exact ⟨A, n, c, _, e, hs, N.nv_ofN x, hn⟩
theorem Fre.bar (h : Fre w w' v K x) : Bar w' v K x := by
  obtain ⟨g, n, c, e, ho, hn⟩ := h
  exact ⟨_, n, c, e, ho.sl, hn⟩
theorem Val.lt (h : Val w v K x) : x < 4294967296 ^ K := by
  obtain ⟨A, n, c, l, e, hs, hx, hn⟩ := h
  have h1 := N.nv_lt hs.lim
  rw [hs.len, hx] at h1
  exact Nat.lt_of_lt_of_le h1 (Nat.pow_le_pow_right (by omega) hn)
theorem fre_of {g n c : Nat} (ho : Own w' w.heap.size g n c (N.ofN x)) (h : x < 4294967296 ^ K) : Fre w w' (.slice (some ⟨g, 0, none⟩) n c) K x :=
  ⟨g, n, c, rfl, ho, by rw [← ho.len]; exact N.ofN_length_le h⟩
end


theorem lv_take (l : List Nat) (k : Nat) : lv (l.take k) = (lv l).take k := by simp [lv, List.map_take]
theorem lv_splice (l r : List Nat) (k : Nat) : lv (splice l k r) = splice (lv l) k (lv r) := by
  simp [lv, splice, List.map_take, List.map_drop]
theorem splice_all (n : Nat) (r : List Nat) (h : r.length = n) : splice (List.replicate n 0) 0 r = r := by
  simp [splice, h]
theorem N.Lim.splice {l r : List Nat} (hl : N.Lim l) (hr : N.Lim r) (k : Nat) : N.Lim (Go.splice l k r) := (hl.take k).app (hr.app (hl.drop _))
theorem take_splice {α : Type} (L : List α) (off : Nat) (cs : List α) (n : Nat) (h : off + cs.length ≤ n) : (splice L off cs).take n = splice (L.take n) off cs := by
  unfold splice
  apply List.ext_getElem?
  intro k
  simp only [List.getElem?_append, List.getElem?_take, List.getElem?_drop, List.length_take]
  grind

/-- A guard: the walk stands at a copy. -/
theorem at_copy {P : Program} {w : World} {ops : Array Oper} {rest : List Oper} {dst : Option Tmp} {A : Array Operand} {T : Array TypeId} {ty : TypeId} {p : String} {af : Array Edge} {g : Option (Nat × Bool)} {a : Act} {Q : Exit → Act → World → Prop}
    (h : wpList P ops Q (⟨dst, .call { callee := .builtin .copy, args := A, argTypes := T }, ty, p, af, g⟩ :: rest) a w) : wpList P ops Q (⟨dst, .call { callee := .builtin .copy, args := A, argTypes := T }, ty, p, af, g⟩ :: rest) a w := h

/-- 'copy(dst, src)' of limbs, dst in a row of the call's own. -/
theorem wpList_copy_lim {P : Program} {w : World} {ops : Array Oper} {rest : List Oper} {o : Oper} {a : Act} {Q : Exit → Act → World → Prop} (hgd : o.guard = none) (d s : Operand) (dT sT : TypeId)
    (ho : o.op = .call { callee := .builtin .copy, args := #[d, s], argTypes := #[dT, sT] }) (hu : P.underlying dT = some (.slice 54)) (hsz : (P.info? 54).map (·.size) = some 1)
    (dp sp : Option Addr) (dLen dCap sLen sCap : Nat) (hd : a.eval d = .slice dp dLen dCap) (hs : a.eval s = .slice sp sLen sCap)
    (base g n c off : Nat) (l : List Nat) (hown : Own w base g n c l) (r : List Nat) (hsrc : Sl w sp sLen sCap r) (k : Nat) (hk : k = Nat.min sLen dLen) (hdp : 0 < k → dp = some ⟨g, off, none⟩) (hfit : off + k ≤ n)
    (ys : List Nat) (hys : splice l off (r.take k) = ys)
    (B : Nat) (w0 : World) (hb : Below B w0 w) (hBg : B ≤ g)
    (h : ∀ w', Own w' base g n c ys → Below B w0 w' → wpList P ops Q rest (a.put o.dst (goInt k)) w') :
    wpList P ops Q (o :: rest) a w := by
  subst hys
  have hl := hown.len
  have hsl := hsrc.len
  have hks : k ≤ sLen := by rw [hk]; exact Nat.min_le_left _ _
  have hlk : (r.take k).length = k := by rw [List.length_take]; omega
  rcases hown.own.2 with ⟨e, _⟩ | ⟨g', cap, cur, e, a1, a2, a3, a4, a5, a6⟩
  · cases e
  injection e with e1 e2 e3
  injection e1 with e1; injection e1 with e1
  subst e1; subst e3
  have hcl : (lv (r.take k)).length = k := by rw [lv_length, hlk]
  have hcs : cur.size = c := by omega
  refine wpList_copy_splice hgd d s dT sT ho _ hu hsz dp sp dLen dCap sLen sCap hd hs g off cur.toList _ (by simpa using a2) (lv (r.take k)) (by rw [hcl, hk]) ?_ (by rw [hcl, Array.length_toList]; omega) (lv_oneCell _) B w0 hb hBg ?_
  · intro h0
    rw [hcl] at h0
    refine ⟨hdp h0, ?_⟩
    obtain ⟨ad, e, hc⟩ := hsrc.news (by omega)
    refine ⟨ad, e, fun j v hv => hc j v ?_⟩
    rw [lv_take] at hv
    rw [List.getElem?_take] at hv
    split at hv
    · exact hv
    · cases hv
  · intro w' hg hb'
    have hg := hg.out
    rw [hcl]
    refine h w' ⟨⟨?_, .inr ⟨g, c, _, rfl, a1, hg, a3, a4, ?_, ?_⟩⟩, N.Lim.splice hown.lim (hsrc.lim.take k) off, full_of_ints hg ?_ ?_⟩ hb'
    · rw [lv_length, length_splice _ _ _ (by omega)]; omega
    · rw [List.size_toArray, length_splice _ _ _ (by rw [hcl, Array.length_toList]; omega), Array.length_toList]; omega
    · rw [lv_splice, ← a6, List.toList_toArray, take_splice _ _ _ _ (by omega)]
    · have hi := ints_of_full a2 hown.full (by omega)
      intro u hu
      rw [List.toList_toArray] at hu
      simp only [splice, List.mem_append] at hu
      rcases hu with hu | hu | hu
      · exact hi u (List.mem_of_mem_take hu)
      · exact ints_lv _ u hu
      · exact hi u (List.mem_of_mem_drop hu)
    · rw [List.size_toArray, length_splice _ _ _ (by rw [hcl, Array.length_toList]; omega), Array.length_toList]; omega

/-- A row of limbs of the call's own, nil at first. -/
structure Out (w : World) (base : Nat) (v : Value) (l : List Nat) : Prop where
  own : w.ownsRow base 54 1 v l.length (lv l)
  lim : N.Lim l
section
variable {w w' : World} {base : Nat} {v : Value} {l : List Nat}
theorem Out.nil (w : World) (base : Nat) : Out w base (.slice none 0 0) [] := ⟨World.ownsRow_nil _ _ _ _, N.Lim.nil⟩
theorem Out.kept (h : Out w base v l) {row : Option Nat} (hg : w.grownBy w' row) (hne : v.ownBlock = none ∨ v.ownBlock ≠ row) : Out w' base v l := ⟨h.own.kept hg hne, h.lim⟩
theorem Out.below (h : Out w base v l) (hb : Below w.heap.size w w') : Out w' base v l :=
  h.kept (gb_of_below hb none) (by cases v.ownBlock <;> simp)
theorem Out.drewN (h : Out w base v l) (k : Nat) : Out (w.drewN k) base v l := ⟨h.own, h.lim⟩
theorem Out.sl (h : Out w base v l) : ∃ A c, v = .slice A l.length c ∧ Sl w A l.length c l := by
  rcases h.own.2 with ⟨rfl, h0⟩ | ⟨g, cap, cur, rfl, _, _, hle, _⟩
  · have := List.eq_nil_of_length_eq_zero h0
    subst this
    exact ⟨none, 0, rfl, Sl.nil _ _ _⟩
  · refine ⟨some ⟨g, 0, none⟩, cap, rfl, rfl, hle, h.lim, fun _ => ⟨g, 0, rfl, fun k hk => ?_⟩⟩
    rw [Nat.zero_add, h.own.cellAt k (by omega), lv_get l k hk]
end
theorem cell1 {w : World} {X : Int} {z : Nat} {g : Nat} (hg : g = w.heap.size) (h : X = (z : Nat)) : (w.alloc (.cells #[.int .u32 X] 54)).cell? ⟨g, 0, none⟩ = some (.int .u32 (z : Nat)) := by
  subst h; subst hg
  rw [cell_of_row _ _ _ _ _ _ (heap_alloc_new w _)]
  rfl
theorem out_alloc {w : World} {base : Nat} {v : Value} {l : List Nat} (h : Out w base v l) (o : Obj) : Out (w.alloc o) base v l := h.below ((Below.refl _ _).alloc (Nat.le_refl _) _)
theorem out_below {w wr w2 : World} {base : Nat} {v : Value} {l : List Nat} {o : Obj} (hb : Below base w wr) (hown : Out wr base v l) (hbase : base ≤ wr.heap.size) (hgr : (wr.alloc o).grownBy w2 v.ownBlock) : Below base w w2 :=
  (hb.alloc hbase _).grown hgr (by simp; omega) (fun k hk => (hown.own.lt k hk).1)
/-- 'append(out, x)', x laid in a list of its own. -/
theorem wpList_append_out {P : Program} (w : World) {ops : Array Oper} {rest : List Oper} {o : Oper} {a : Act} {Q : Exit → Act → World → Prop} (hgd : o.guard = none) (s x : Operand) (t : TypeId)
    (ho : o.op = .call { callee := .builtin .append, args := #[s, x], argTypes := #[t, t] })
    (base : Nat) (i : TypeInfo) (ht : P.underlying t = some (.slice 54)) (hi : P.info? 54 = some i) (hz : i.zero = some (.int .u32 0)) (hsize : i.size = 1) (hby : i.bytes = 4)
    (v : Value) (l : List Nat) (hs : a.eval s = v) (hown : Out w base v l)
    (g c z : Nat) (hx : a.eval x = .slice (some ⟨g, 0, none⟩) 1 c) (hzl : z < 4294967296) (hcell : w.cell? ⟨g, 0, none⟩ = some (.int .u32 (z : Nat)))
    (hb : l.length < 35184372088832) (hbase : base ≤ w.heap.size)
    (h : ∀ v' w', Out w' base v' (l ++ [z]) → w.grownBy w' v.ownBlock → wpList P ops Q rest (a.put o.dst v') w') : wpList P ops Q (o :: rest) a w := by
  refine wpList_append_src w hgd s x t ho base _ i (.int .u32 0) 1 4 ht hi hz hsize hby rfl (by omega) v l.length (lv l) hs hown.own (some ⟨g, 0, none⟩) 1 c (lv [z]) hx rfl ?_ (lv_oneCell _) (by unfold maxLen; omega) (by omega) hbase ?_
  · intro _
    refine ⟨_, rfl, fun j u hu => ?_⟩
    have hj : j = 0 := by have := (List.getElem?_eq_some_iff.1 hu).1; simpa [lv] using this
    subst hj
    rw [Addr.add_lit]
    have e : u = .int .u32 (z : Nat) := by simpa [lv] using hu.symm
    rw [e]; exact hcell
  · intro v' w' h2 h3 _
    refine h v' w' ⟨by rw [List.length_append]; rw [lv_append]; exact h2, hown.lim.app (N.Lim.cons hzl N.Lim.nil)⟩ h3
theorem info_size32 : (Tryd.prog.info? 54).map (·.size) = some 1 := by kernel_rfl

set_option maxRecDepth 100000 in
set_option maxHeartbeats 400000 in
theorem rtrim_any (w : World) (A : Option Addr) (n c : Nat) (l : List Nat) (h : Sl w A n c l) (hm : n ≤ 35184372088832) :
    Calls Tryd.prog 46 #[.slice A n c] w fun e w' => ∃ g n' c', e = .returned (.slice (some ⟨g, 0, none⟩) n' c') ∧ Own w' w.heap.size g n' c' (N.ofN (N.nv l)) ∧ Below w.heap.size w w' := by
  obtain ⟨i0, hi, hz0, hz1, hz2⟩ := info_parts info_u32
  have hcap := h.cap
  have hlen := h.len
  have HLEN := Lib.hid hlen
  clear hlen
  go_enter Tryd.func46, Tryd.ntmps46
  go_wp2_with fail
  go_loop [3] (fun v => ∃ k : Nat, k ≤ n ∧ v = .int .i64 k ∧ ∀ j, k ≤ j → j < n → N.dg l j = 0) (fun v => (intOf v).toNat)
  case atStart => exact ⟨n, Nat.le_refl _, rfl, fun j h1 h2 => by omega⟩
  case round =>
    obtain ⟨k, hk, rfl, hz⟩ := hrel
    have HZ := Lib.hid hz
    clear hz
    by_cases hk0 : k = 0
    · subst hk0
      have e : l.take 0 = N.ofN (N.nv l) := N.take_bare h.lim (by omega) (fun j h1 h2 => HZ.out j h1 (by rw [HLEN.out] at h2; exact h2)) (.inl rfl)
      have E := Lib.hid e
      clear e
      go_wp2_with (first
        | (at_make; refine wpList_make_lim _ rfl (.tmp 19) (.tmp 19) 40 rfl i0 Tryd.underlying40 hi hz0 hz1 hz2 .i64 .i64 _ _ 0 rfl rfl (by omega) (by omega) (by omega) ?_; intro w1 ho1 hb1; have hs1 := h.below hb1)
        | (with_reducible refine at_copy ?_; refine wpList_copy_lim rfl (.tmp 21) (.tmp 22) _ _ rfl Tryd.underlying40 info_size32 _ _ _ _ _ _ rfl rfl _ _ _ _ 0 _ ho1 l hs1 0 (by simp) (fun _ => rfl) (by omega) (N.ofN (N.nv l)) (by rw [← E.out]; exact splice_all _ _ (by simp)) w.heap.size w hb1 (Nat.le_refl _) ?_; intro w2 ho2 hb2))
      go_ret
      exact ⟨_, _, _, rfl, ho2, hb2⟩
    · obtain ⟨b, o, rfl, hc⟩ := h.cells (by omega)
      have hck := hc (k - 1) (by omega)
      clear hc
      by_cases hd : N.dg l (k - 1) = 0
      · have ht : ((N.dg l (k - 1) : Int) == 0) = true := by simpa using hd
        have HD := Lib.hid hd
        clear hd
        go_wp2_with fail
        go_round
        case rel =>
          refine ⟨k - 1, by omega, by go_num, fun j h1 h2 => ?_⟩
          rcases Nat.lt_or_ge j k with h3 | h3
          · obtain rfl : j = k - 1 := by omega
            exact HD.out
          · exact HZ.out j h3 h2
        case measure => simp [intOf]; omega
      · have ht : ((N.dg l (k - 1) : Int) == 0) = false := by simpa using hd
        have e : l.take k = N.ofN (N.nv l) := N.take_bare h.lim (by rw [HLEN.out]; exact hk) (fun j h1 h2 => HZ.out j h1 (by rw [HLEN.out] at h2; exact h2)) (.inr hd)
        have E := Lib.hid e
        clear e hd
        go_wp2_with (first
          | (at_make; refine wpList_make_lim _ rfl (.tmp 19) (.tmp 19) 40 rfl i0 Tryd.underlying40 hi hz0 hz1 hz2 .i64 .i64 _ _ k rfl rfl (by omega) (by omega) (by omega) ?_; intro w1 ho1 hb1; have hs1 := h.below hb1)
          | (with_reducible refine at_copy ?_; refine wpList_copy_lim rfl (.tmp 21) (.tmp 22) _ _ rfl Tryd.underlying40 info_size32 _ _ _ _ _ _ rfl rfl _ _ _ _ 0 _ ho1 l hs1 k (Nat.min_eq_right hk).symm (fun _ => rfl) (by omega) (N.ofN (N.nv l)) (by rw [← E.out]; exact splice_all _ _ (by rw [List.length_take, HLEN.out]; omega)) w.heap.size w hb1 (Nat.le_refl _) ?_; intro w2 ho2 hb2))
        go_ret
        exact ⟨_, _, _, rfl, ho2, hb2⟩
set_option maxRecDepth 100000 in
set_option maxHeartbeats 1600000 in
theorem rtimes_any (w : World) (A : Option Addr) (n c : Nat) (a : List Nat) (f r : Nat) (zf zr : Int) (hzf : zf = (f : Nat)) (hzr : zr = (r : Nat)) (ha : Sl w A n c a) (hn : n ≤ 17592186044416) (hf : f < 4294967296) (hr : r < 4294967296) :
    Calls Tryd.prog 42 #[.slice A n c, .int .u32 zf, .int .u32 zr] w fun e w' => ∃ g n' c', e = .returned (.slice (some ⟨g, 0, none⟩) n' c') ∧ Own w' w.heap.size g n' c' (N.ofN (N.nv a * f + r)) ∧ Below w.heap.size w w' := by
  subst hzf
  subst hzr
  obtain ⟨i0, hi, hz0, hz1, hz2⟩ := info_parts info_u32
  have hla := ha.len
  have HLA := Lib.hid hla
  clear hla
  go_enter Tryd.func42, Tryd.ntmps42
  go_wp2_with fail
  go_loopw [7, 8, 9] (fun v7 v8 v9 wr => ∃ (k o : Nat) (out : List Nat), k ≤ n ∧ v9 = .int .i64 k ∧ v8 = .int .u64 o ∧ Out wr w.heap.size v7 out ∧ out.length = k ∧ o < 4294967296 ∧ N.nv out + 4294967296 ^ k * o = N.nv (a.take k) * f + r ∧ Below w.heap.size w wr) (fun _ _ v9 _ => n - (intOf v9).toNat)
  case atStart => exact ⟨0, r, [], by omega, rfl, rfl, Out.nil _ _, rfl, hr, by simp [N.nv], Below.refl _ _⟩
  case round =>
    obtain ⟨k, o, out, hk, rfl, rfl, hown, hol, ho1, heq, hbw⟩ := hrel
    have HEQ := Lib.hid heq
    have HOL := Lib.hid hol
    clear heq hol
    have ha' := ha.below hbw
    have hz := hbw.size
    by_cases h1 : k < n
    · have hp := N.dg_lt ha.lim k
      obtain ⟨hx1, hx2⟩ := N.over_lt hp hf ho1
      have hstep := N.times_step HOL.out HEQ.out
      have HST := Lib.hid hstep
      clear hstep
      obtain ⟨bx, ox, rfl, hcx⟩ := ha'.cells (by omega)
      have hc1 := hcx k h1
      clear hcx
      obtain ⟨p, hpe⟩ : ∃ p, N.dg a k = p := ⟨_, rfl⟩
      rw [hpe] at hc1 hp hx1 hx2
      have HP := Lib.hid hpe
      clear hpe
      have hxy1 : (p : Int) * (f : Int) ≤ 18446744065119617025 := mul_cast_le (N.mul_lt hp hf)
      have hxy0 : 0 ≤ (p : Int) * (f : Int) := mul_cast_nonneg _ _
      have he : (p : Int) * (f : Int) = (p * f : Nat) := by rw [Int.natCast_mul]
      have HE := Lib.hid he
      clear he
      go_wp2_with (at_builtin; refine wpList_append_out _ rfl (.tmp 29) (.tmp 33) 40 rfl w.heap.size i0 Tryd.underlying40 hi hz0 hz1 hz2 _ out rfl (out_alloc hown _) _ 1 ((p * f + o) % 4294967296) rfl (Nat.mod_lt _ (by omega)) (cell1 rfl (by rw [HE.out]; omega)) (by rw [HOL.out]; omega) (by simp; omega) ?_; intro v2 w2 ho2 hg2)
      have hb2 := out_below hbw hown hz hg2
      go_roundw
      case rel => exact ⟨k + 1, (p * f + o) / 4294967296, _, by omega, by go_num, by rw [HE.out]; go_num, ho2, by rw [List.length_append, HOL.out]; rfl, hx2, by have := HST.out; rw [HP.out] at this; exact this, hb2⟩
      case measure => simp [intOf]; omega
    · obtain rfl : k = n := by omega
      go_wp2_with (first
        | (go_at_call 46; obtain ⟨A2, c2, rfl, hs2⟩ := ho2.sl; refine (rtrim_any _ A2 _ c2 _ hs2 (by rw [List.length_append, HOL.out]; simp; omega)).mono ?_; rintro e w3 ⟨g3, n3, c3, rfl, ho3, hb3⟩)
        | (at_builtin; refine wpList_append_out _ rfl (.tmp 37) (.tmp 40) 40 rfl w.heap.size i0 Tryd.underlying40 hi hz0 hz1 hz2 _ out rfl (out_alloc hown _) _ 1 o rfl (by omega) (cell1 rfl (by omega)) (by rw [HOL.out]; omega) (by simp; omega) ?_; intro v2 w2 ho2 hg2))
      go_ret
      have hb2 := out_below hbw hown hz hg2
      have e := HEQ.out
      rw [N.take_all (by rw [HLA.out]; exact Nat.le_refl _)] at e
      rw [N.nv_snoc, HOL.out, e] at ho3
      exact ⟨_, _, _, rfl, ho3.mono hb2.size, hb2.trans (hb3.mono hb2.size)⟩

theorem byte_at {S : ByteArray} {i : Nat} (h : i < S.size) : S.data.toList[i]? = some (S[i]'h) := by
  rw [Array.getElem?_toList]; exact Array.getElem?_eq_getElem h
theorem not_empty {S : ByteArray} (h : 0 < S.size) : S.toList.isEmpty = false ∧ S.toList ≠ [] := by
  have h1 : S.toList ≠ [] := by
    rw [ByteArray.toList_eq]
    intro e
    have := congrArg List.length e
    rw [Array.length_toList] at this
    exact absurd this (by show ¬ S.size = 0; omega)
  refine ⟨?_, h1⟩
  cases hh : S.toList with
  | nil => exact absurd hh h1
  | cons _ _ => rfl
theorem size_list (S : ByteArray) : S.data.toList.length = S.size := Array.length_toList

set_option maxRecDepth 100000 in
set_option maxHeartbeats 1600000 in
theorem rparse_ok (w : World) (S : ByteArray) (hs : S.size ≤ 1099511627776) (hok : N.okTxt S.data.toList) :
    Calls Tryd.prog 37 #[.string S] w fun e w' => ∃ v, e = .returned (.tuple #[v, .bool true]) ∧ Bar w' v S.size (N.val S.data.toList) ∧ Below w.heap.size w w' := by
  have hS0 : 0 < S.size := by
    rcases Nat.eq_zero_or_pos S.size with h | h
    · exact absurd (List.eq_nil_of_length_eq_zero (by simpa using h)) hok.1
    · exact h
  obtain ⟨hne, hnil⟩ := not_empty hS0
  have hcond : ((((S[0]'hS0).toNat : Int) == 48) = true ∧ decide ((S.size : Int) > 1) = false ∧ decide (1 < (S.size : Int)) = false) ∨ (((S[0]'hS0).toNat : Int) == 48) = false := by
    by_cases h : (S[0]'hS0).toNat = 48
    · have h1 := byte_at hS0
      have h2 : S.data.toList.length = 1 := hok.2.2 (by rw [List.head?_eq_getElem?, h1]; exact congrArg some (UInt8.toNat_inj.1 h))
      rw [size_list] at h2
      exact .inl ⟨by simp; omega, decide_eq_false (by omega), decide_eq_false (by omega)⟩
    · exact .inr (by simp; omega)
  have hdig : ∀ i, (h : i < S.size) → 48 ≤ (S[i]'h).toNat ∧ (S[i]'h).toNat ≤ 57 := fun i h => hok.2.1 _ (List.mem_of_getElem? (byte_at h))
  have HD := Lib.hid hdig
  have HOK := Lib.hid hok
  clear hdig hok hnil
  have fin : ∀ i, (h : i < S.size) → N.val (S.data.toList.take (i + 1)) = 10 * N.val (S.data.toList.take i) + ((S[i]'h).toNat - 48) := fun i h => by
    rw [List.take_add_one, byte_at h]; exact N.val_snoc _ _
  have vlt : ∀ i, N.val (S.data.toList.take i) < 4294967296 ^ i := fun i => by
    have h1 := N.val_lt (l := S.data.toList.take i) (fun c hc => HOK.out.2.1 c (List.mem_of_mem_take hc))
    have h2 : (10 : Nat) ^ (S.data.toList.take i).length ≤ 10 ^ i := Nat.pow_le_pow_right (by omega) (by rw [List.length_take]; omega)
    have h3 : (10 : Nat) ^ i ≤ 4294967296 ^ i := Nat.pow_le_pow_left (by omega) _
    omega
  have FIN := Lib.hid fin
  have VLT := Lib.hid vlt
  clear fin vlt
  go_enter Tryd.func37, Tryd.ntmps37
  rcases hcond with ⟨hd0, hsz, hsz2⟩ | hd0
  all_goals
    go_wp2_with fail
    go_loopw [5] (fun v5 wr => ∃ i : Nat, i ≤ S.size ∧ v5 = .int .i64 i ∧ w = wr) (fun v5 _ => S.size - (intOf v5).toNat)
    case atStart => exact ⟨0, by omega, rfl, rfl⟩
    case round =>
      obtain ⟨i, hi, rfl, rfl⟩ := hrel
      by_cases hin : i < S.size
      · obtain ⟨q1, q2⟩ := HD.out i hin
        have t1 : decide (((S[i]'hin).toNat : Int) < 48) = false := decide_eq_false (by omega)
        have t2 : decide (((S[i]'hin).toNat : Int) > 57) = false := decide_eq_false (by omega)
        have t3 : decide (57 < ((S[i]'hin).toNat : Int)) = false := decide_eq_false (by omega)
        clear q1 q2
        go_wp2_with fail
        go_roundw
        case rel => exact ⟨i + 1, by omega, by go_num, trivial⟩
        case measure => simp [intOf]; omega
      · obtain rfl : i = S.size := by omega
        go_wp2_with fail
        go_loopw [4, 6] (fun v4 v6 wr => ∃ (i : Nat) (A : Option Addr) (n c : Nat), i ≤ S.size ∧ v6 = .int .i64 i ∧ v4 = .slice A n c ∧ Sl wr A n c (N.ofN (N.val (S.data.toList.take i))) ∧ Below w.heap.size w wr) (fun _ v6 _ => S.size - (intOf v6).toNat)
        case atStart => exact ⟨0, none, 0, 0, by omega, rfl, rfl, Sl.nil _ _ _, Below.refl _ _⟩
        case round =>
          obtain ⟨i, A, n, c, hi, rfl, rfl, hsl, hbw⟩ := hrel
          have hn : n ≤ i := by have h1 := hsl.len; have h2 := N.ofN_length_le (VLT.out i); omega
          by_cases hin : i < S.size
          · obtain ⟨q1, q2⟩ := HD.out i hin
            have hf := FIN.out i hin
            obtain ⟨q, hq⟩ : ∃ q, (S[i]'hin).toNat = q := ⟨_, rfl⟩
            rw [hq] at q1 q2 hf
            have HF := Lib.hid hf
            have hq' : ((S[i]'hin).toNat : Int) = (q : Int) := by rw [hq]
            clear hf hq
            go_wp2_with fail
            refine (rtimes_any _ A n c _ 10 (q - 48) _ _ rfl (by omega) hsl (by omega) (by omega) (by omega)).mono ?_
            rintro e w1 ⟨g1, n1, c1, rfl, ho1, hb1⟩
            rw [N.nv_ofN, Nat.mul_comm, ← HF.out] at ho1
            go_wp2_with fail
            go_roundw
            case rel => exact ⟨i + 1, _, _, _, by omega, by go_num, rfl, ho1.sl, hbw.trans (hb1.mono hbw.size)⟩
            case measure => simp [intOf]; omega
          · obtain rfl : i = S.size := by omega
            go_wp2_with fail
            go_ret2
            rw [List.take_of_length_le (by rw [size_list]; exact Nat.le_refl _)] at hsl
            exact ⟨_, rfl, ⟨_, _, _, rfl, hsl, hn⟩, hbw⟩

set_option maxRecDepth 100000 in
set_option maxHeartbeats 1600000 in
theorem rparse_own (w : World) (S : ByteArray) (hs : S.size ≤ 1099511627776) (hok : N.okTxt S.data.toList) :
    Calls Tryd.prog 37 #[.string S] w fun e w' => ∃ g n c, e = .returned (.tuple #[.slice (some ⟨g, 0, none⟩) n c, .bool true]) ∧ Own w' w.heap.size g n c (N.ofN (N.val S.data.toList)) ∧ Below w.heap.size w w' := by
  have hS0 : 0 < S.size := by
    rcases Nat.eq_zero_or_pos S.size with h | h
    · exact absurd (List.eq_nil_of_length_eq_zero (by simpa using h)) hok.1
    · exact h
  obtain ⟨hne, hnil⟩ := not_empty hS0
  have hcond : ((((S[0]'hS0).toNat : Int) == 48) = true ∧ decide ((S.size : Int) > 1) = false ∧ decide (1 < (S.size : Int)) = false) ∨ (((S[0]'hS0).toNat : Int) == 48) = false := by
    by_cases h : (S[0]'hS0).toNat = 48
    · have h1 := byte_at hS0
      have h2 : S.data.toList.length = 1 := hok.2.2 (by rw [List.head?_eq_getElem?, h1]; exact congrArg some (UInt8.toNat_inj.1 h))
      rw [size_list] at h2
      exact .inl ⟨by simp; omega, decide_eq_false (by omega), decide_eq_false (by omega)⟩
    · exact .inr (by simp; omega)
  have hdig : ∀ i, (h : i < S.size) → 48 ≤ (S[i]'h).toNat ∧ (S[i]'h).toNat ≤ 57 := fun i h => hok.2.1 _ (List.mem_of_getElem? (byte_at h))
  have HD := Lib.hid hdig
  have HOK := Lib.hid hok
  clear hdig hok hnil
  have fin : ∀ i, (h : i < S.size) → N.val (S.data.toList.take (i + 1)) = 10 * N.val (S.data.toList.take i) + ((S[i]'h).toNat - 48) := fun i h => by
    rw [List.take_add_one, byte_at h]; exact N.val_snoc _ _
  have vlt : ∀ i, N.val (S.data.toList.take i) < 4294967296 ^ i := fun i => by
    have h1 := N.val_lt (l := S.data.toList.take i) (fun c hc => HOK.out.2.1 c (List.mem_of_mem_take hc))
    have h2 : (10 : Nat) ^ (S.data.toList.take i).length ≤ 10 ^ i := Nat.pow_le_pow_right (by omega) (by rw [List.length_take]; omega)
    have h3 : (10 : Nat) ^ i ≤ 4294967296 ^ i := Nat.pow_le_pow_left (by omega) _
    omega
  have FIN := Lib.hid fin
  have VLT := Lib.hid vlt
  clear fin vlt
  go_enter Tryd.func37, Tryd.ntmps37
  rcases hcond with ⟨hd0, hsz, hsz2⟩ | hd0
  all_goals
    go_wp2_with fail
    go_loopw [5] (fun v5 wr => ∃ i : Nat, i ≤ S.size ∧ v5 = .int .i64 i ∧ w = wr) (fun v5 _ => S.size - (intOf v5).toNat)
    case atStart => exact ⟨0, by omega, rfl, rfl⟩
    case round =>
      obtain ⟨i, hi, rfl, rfl⟩ := hrel
      by_cases hin : i < S.size
      · obtain ⟨q1, q2⟩ := HD.out i hin
        have t1 : decide (((S[i]'hin).toNat : Int) < 48) = false := decide_eq_false (by omega)
        have t2 : decide (((S[i]'hin).toNat : Int) > 57) = false := decide_eq_false (by omega)
        have t3 : decide (57 < ((S[i]'hin).toNat : Int)) = false := decide_eq_false (by omega)
        clear q1 q2
        go_wp2_with fail
        go_roundw
        case rel => exact ⟨i + 1, by omega, by go_num, trivial⟩
        case measure => simp [intOf]; omega
      · obtain rfl : i = S.size := by omega
        go_wp2_with fail
        go_loopw [4, 6] (fun v4 v6 wr => ∃ (i : Nat) (A : Option Addr) (n c : Nat), i ≤ S.size ∧ v6 = .int .i64 i ∧ v4 = .slice A n c ∧ Sl wr A n c (N.ofN (N.val (S.data.toList.take i))) ∧ Below w.heap.size w wr ∧ Hid (0 < i → ∃ g, A = some ⟨g, 0, none⟩ ∧ Own wr w.heap.size g n c (N.ofN (N.val (S.data.toList.take i))))) (fun _ v6 _ => S.size - (intOf v6).toNat)
        case atStart => exact ⟨0, none, 0, 0, by omega, rfl, rfl, Sl.nil _ _ _, Below.refl _ _, Lib.hid (fun h => absurd h (by omega))⟩
        case round =>
          obtain ⟨i, A, n, c, hi, rfl, rfl, hsl, hbw, hO⟩ := hrel
          have hn : n ≤ i := by have h1 := hsl.len; have h2 := N.ofN_length_le (VLT.out i); omega
          by_cases hin : i < S.size
          · obtain ⟨q1, q2⟩ := HD.out i hin
            have hf := FIN.out i hin
            obtain ⟨q, hq⟩ : ∃ q, (S[i]'hin).toNat = q := ⟨_, rfl⟩
            rw [hq] at q1 q2 hf
            have HF := Lib.hid hf
            have hq' : ((S[i]'hin).toNat : Int) = (q : Int) := by rw [hq]
            clear hf hq
            go_wp2_with fail
            refine (rtimes_any _ A n c _ 10 (q - 48) _ _ rfl (by omega) hsl (by omega) (by omega) (by omega)).mono ?_
            rintro e w1 ⟨g1, n1, c1, rfl, ho1, hb1⟩
            rw [N.nv_ofN, Nat.mul_comm, ← HF.out] at ho1
            go_wp2_with fail
            go_roundw
            case rel => exact ⟨i + 1, _, _, _, by omega, by go_num, rfl, ho1.sl, hbw.trans (hb1.mono hbw.size), Lib.hid (fun _ => ⟨_, rfl, ho1.mono hbw.size⟩)⟩
            case measure => simp [intOf]; omega
          · obtain rfl : i = S.size := by omega
            go_wp2_with fail
            go_ret2
            obtain ⟨g, rfl, ho⟩ := hO.out hS0
            rw [List.take_of_length_le (by rw [size_list]; exact Nat.le_refl _)] at ho
            exact ⟨_, _, _, rfl, ho, hbw⟩

set_option maxRecDepth 100000 in
set_option maxHeartbeats 1600000 in
theorem rparse_bad (w : World) (S : ByteArray) (hs : S.size ≤ 1099511627776) (hok : ¬ N.okTxt S.data.toList) :
    Calls Tryd.prog 37 #[.string S] w fun e w' => e = .returned (.tuple #[.slice none 0 0, .bool false]) ∧ w = w' := by
  by_cases hS0 : S.size = 0
  · have hne : S.toList = [] := by rw [ByteArray.toList_eq]; exact List.eq_nil_of_length_eq_zero (by rw [Array.length_toList]; exact hS0)
    go_enter Tryd.func37, Tryd.ntmps37
    go_wp2_with fail
    go_ret2
    exact ⟨rfl, rfl⟩
  · have hp : 0 < S.size := by omega
    obtain ⟨hne, hnil⟩ := not_empty hp
    have hb0 := byte_at hp
    by_cases h48 : (S[0]'hp).toNat = 48 ∧ 1 < S.size
    · have hd0 : (((S[0]'hp).toNat : Int) == 48) = true := by simp; omega
      have hsz : decide ((S.size : Int) > 1) = true := decide_eq_true (by omega)
      have hsz2 : decide (1 < (S.size : Int)) = true := decide_eq_true (by omega)
      clear h48 hnil hb0 hok
      go_enter Tryd.func37, Tryd.ntmps37
      go_wp2_with fail
      go_ret2
      exact ⟨rfl, rfl⟩
    · have hall : ¬ ∀ i, (h : i < S.size) → 48 ≤ (S[i]'h).toNat ∧ (S[i]'h).toNat ≤ 57 := fun hd => by
        refine hok ⟨fun e => ?_, fun c hc => ?_, fun e => ?_⟩
        · have := congrArg List.length e
          rw [size_list] at this
          exact hS0 this
        · obtain ⟨i, hi⟩ := List.mem_iff_getElem?.1 hc
          have hlt : i < S.size := by
            have := (List.getElem?_eq_some_iff.1 hi).1
            rw [size_list] at this; exact this
          rw [byte_at hlt] at hi
          injection hi with hi
          rw [← hi]; exact hd i hlt
        · rw [List.head?_eq_getElem?, hb0] at e
          have h1 : (S[0]'hp).toNat = 48 := by injection e with e; rw [e]; rfl
          rw [size_list]
          omega
      have HALL := Lib.hid hall
      have hcond : ((((S[0]'hp).toNat : Int) == 48) = true ∧ decide ((S.size : Int) > 1) = false ∧ decide (1 < (S.size : Int)) = false) ∨ (((S[0]'hp).toNat : Int) == 48) = false := by
        by_cases h : (S[0]'hp).toNat = 48
        · exact .inl ⟨by simp; omega, decide_eq_false (by omega), decide_eq_false (by omega)⟩
        · exact .inr (by simp; omega)
      clear hall h48 hnil hb0 hok
      go_enter Tryd.func37, Tryd.ntmps37
      rcases hcond with ⟨hd0, hsz, hsz2⟩ | hd0
      all_goals
        go_wp2_with fail
        go_loopw [5] (fun v5 wr => ∃ i : Nat, i ≤ S.size ∧ v5 = .int .i64 i ∧ (∀ j, (h : j < S.size) → j < i → 48 ≤ (S[j]'h).toNat ∧ (S[j]'h).toNat ≤ 57) ∧ w = wr) (fun v5 _ => S.size - (intOf v5).toNat)
        case atStart => exact ⟨0, by omega, rfl, fun j h hj => by omega, rfl⟩
        case round =>
          obtain ⟨i, hi, rfl, hbe, rfl⟩ := hrel
          have HBE := Lib.hid hbe
          clear hbe
          by_cases hin : i < S.size
          · rcases (show (S[i]'hin).toNat < 48 ∨ 57 < (S[i]'hin).toNat ∨ (48 ≤ (S[i]'hin).toNat ∧ (S[i]'hin).toNat ≤ 57) by omega) with q | q | q
            · have t1 : decide (((S[i]'hin).toNat : Int) < 48) = true := decide_eq_true (by omega)
              clear q
              go_wp2_with fail
              go_ret2
              exact ⟨rfl, rfl⟩
            · have t1 : decide (((S[i]'hin).toNat : Int) < 48) = false := decide_eq_false (by omega)
              have t2 : decide (((S[i]'hin).toNat : Int) > 57) = true := decide_eq_true (by omega)
              have t3 : decide (57 < ((S[i]'hin).toNat : Int)) = true := decide_eq_true (by omega)
              clear q
              go_wp2_with fail
              go_ret2
              exact ⟨rfl, rfl⟩
            · have t1 : decide (((S[i]'hin).toNat : Int) < 48) = false := decide_eq_false (by omega)
              have t2 : decide (((S[i]'hin).toNat : Int) > 57) = false := decide_eq_false (by omega)
              have t3 : decide (57 < ((S[i]'hin).toNat : Int)) = false := decide_eq_false (by omega)
              have Q := Lib.hid q
              clear q
              go_wp2_with fail
              go_roundw
              case rel =>
                refine ⟨i + 1, by omega, by go_num, fun j h hj => ?_, trivial⟩
                rcases Nat.lt_or_ge j i with h1 | h1
                · exact HBE.out j h h1
                · obtain rfl : j = i := by omega
                  exact Q.out
              case measure => simp [intOf]; omega
          · exfalso
            exact HALL.out fun j h => HBE.out j h (by omega)
end Go.Proofs.YtkioaogpmifgeaaDoor
