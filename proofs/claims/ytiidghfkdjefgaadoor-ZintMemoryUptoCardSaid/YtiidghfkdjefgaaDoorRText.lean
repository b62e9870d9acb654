/-
  riddleref01.Text: contract.
-/
import Derived.Test.YtiidghfkdjefgaaDoorRGcd
import Derived.Laws.IdiomStrings
namespace Go.Proofs.YtiidghfkdjefgaaDoor
open Go.RowKit

theorem txt_len_bits {x K : Nat} (h : x < 4294967296 ^ K) : (N.txt x).length ≤ 32 * K + 1 := by
  have h1 : x < 10 ^ (32 * K + 1) := by
    rw [show 4294967296 = 2 ^ 32 from rfl, ← Nat.pow_mul] at h
    have h2 : 2 ^ (32 * K) ≤ 10 ^ (32 * K) := Nat.pow_le_pow_left (by omega) _
    have h3 : 10 ^ (32 * K) ≤ 10 ^ (32 * K + 1) := Nat.pow_le_pow_right (by omega) (by omega)
    omega
  rcases Nat.eq_zero_or_pos x with h0 | h0
  · subst h0; exact Nat.le_add_left _ _
  · obtain ⟨z, hz⟩ := N.pad_txt _ x h0 h1
    have h2 := congrArg List.length hz
    rw [N.pad_length, List.length_append] at h2
    omega
/-- What is yet to be written. -/
def ahead (g : Nat) : List UInt8 := if g = 0 then [] else N.txt g
theorem ahead_step (g : Nat) (h : 0 < g) : ahead g = ahead (g / 10) ++ [N.digc g] := by
  unfold ahead
  rw [if_neg (by omega)]
  rcases Nat.lt_or_ge g 10 with h1 | h1
  · rw [if_pos (by omega), N.txt_small h1]; rfl
  · rw [if_neg (by omega), N.txt_big h1]
/-- The cells of bytes. -/
def bv (l : List UInt8) : List Value := l.map fun b => .int .u8 (b.toNat : Nat)
theorem bv_length (l : List UInt8) : (bv l).length = l.length := by simp [bv]
theorem bv_append (a b : List UInt8) : bv (a ++ b) = bv a ++ bv b := by simp [bv]
theorem bv_get (l : List UInt8) (k : Nat) (h : k < l.length) : (bv l)[k]? = some (.int .u8 ((l[k]).toNat : Nat)) := by simp [bv, h]
/-- The row half turned. -/
def half (r : List UInt8) (i : Nat) : List UInt8 := r.take i ++ List.replicate (r.length - i) 0
theorem half_length (r : List UInt8) (i : Nat) (h : i ≤ r.length) : (half r i).length = r.length := by simp [half]; omega
theorem half_step (r : List UInt8) (i : Nat) (h : i < r.length) : (bv (half r i)).set i (.int .u8 ((r[i]).toNat : Nat)) = bv (half r (i + 1)) := by
  have e : (half r i).set i r[i] = half r (i + 1) := by
    unfold half
    apply List.ext_getElem?
    intro k
    rw [List.getElem?_set]
    simp only [List.getElem?_append, List.getElem?_take, List.length_take, List.getElem?_replicate, List.length_append, List.length_replicate]
    grind
  rw [← e]
  simp [bv, List.map_set]
theorem half_all (r : List UInt8) : half r r.length = r := by simp [half]
theorem half_none (r : List UInt8) : bv (half r 0) = List.replicate r.length (.int .u8 0) := by
  simp [half, bv]

set_option maxRecDepth 100000 in
set_option maxHeartbeats 4000000 in
theorem rtext_any (w : World) (A : Option Addr) (n c : Nat) (a : List Nat) (ha : Sl w A n c a) (hn : n ≤ 34359738368) :
    Calls Tryd.prog 62 #[.slice A n c] w fun e w' => e = .returned (.string ⟨(N.txt (N.nv a)).toArray⟩) ∧ Below w.heap.size w w' := by
  obtain ⟨i0, hi, hz0, hz1, hz2⟩ := info_parts info_u8
  have hla := N.nv_len_le ha.lim
  rw [ha.len] at hla
  have hlt := N.nv_lt ha.lim
  rw [ha.len] at hlt
  have hlen := txt_len_bits hlt
  obtain ⟨x, hx⟩ : ∃ x, N.nv a = x := ⟨_, rfl⟩
  rw [hx] at hla hlen ⊢
  have HX := Lib.hid hx
  clear hx hlt
  go_enter Tryd.func62, Tryd.ntmps62
  go_wp2_with fail
  refine (rtrim_any _ A n c a ha (by omega)).mono ?_
  rintro e w1 ⟨g, k, e1, rfl, ho, hb1⟩
  rw [HX.out] at ho
  have hk := ho.len
  rcases Nat.eq_zero_or_pos x with h0 | h0
  · have hk0 := ofN_len_zero hk h0
    subst hk0
    have e : N.txt x = [48] := by rw [h0]; rfl
    have E := Lib.hid e
    clear e hk h0 hla hlen
    go_wp2_with fail
    go_ret
    rw [E.out]
    exact ⟨rfl, hb1⟩
  · have hkp := ofN_len_pos hk h0
    have tk : ((k : Int) == 0) = false := by
      have : ¬ (k : Int) = 0 := by omega
      simpa using this
    have hnum : Num w1 (.slice (some ⟨g, 0, none⟩) k e1) n x := num_own ho hla
    have HLEN := Lib.hid hlen
    clear ho hk hla hlen
    go_wp2_with fail
    go_loopg [3, 4] x (fun gk v3 v4 wr => ∃ l : List UInt8, Num wr v3 n gk ∧ wr.ownsRow w.heap.size 5 1 v4 l.length (bv l) ∧ N.txt x = ahead gk ++ l.reverse ∧ Below w.heap.size w wr)
    case atStart => exact ⟨[], hnum, World.ownsRow_nil _ _ _ _, by simp [ahead]; omega, hb1⟩
    case round =>
      clear hnum
      obtain ⟨G, rfl⟩ : ∃ G : Nat, G = gk := ⟨_, rfl⟩
      obtain ⟨l, hx1, hown, htx, hbw⟩ := hrel
      have hll : l.length ≤ 32 * n + 1 := by
        have h1 := congrArg List.length htx
        rw [List.length_append, List.length_reverse] at h1
        have := HLEN.out
        omega
      have HTX := Lib.hid htx
      clear htx
      obtain ⟨C, m, d, rfl, hs, hm⟩ := hx1
      have hz := hbw.size
      rcases Nat.eq_zero_or_pos G with hG | hG
      · have hm0 := ofN_len_zero hs.len hG
        subst hm0
        have hrev : N.txt x = l.reverse := by rw [HTX.out, hG]; rfl
        have HREV := Lib.hid hrev
        have hl0 : 0 < l.length := by
          rcases Nat.eq_zero_or_pos l.length with h | h
          · have := List.eq_nil_of_length_eq_zero h
            subst this
            exact absurd hrev (N.txt_ne_nil x)
          · exact h
        clear hs hG hrev
        rcases hown.2 with ⟨_, h⟩ | ⟨gt, ct, curt, rfl, hgb, hheap, hkc, hcm, hcs, htk⟩
        · omega
        have hgt := hown.lt gt rfl
        have hcell : ∀ j, (h : j < l.length) → wr.cell? ⟨gt, j, none⟩ = some (.int .u8 ((l[j]'h).toNat : Nat)) := fun j h => by
          rw [hown.cellAt j (by omega), bv_get l j h]
        have HC := Lib.hid hcell
        clear hgb hheap hkc hcm hcs htk hown hcell
        obtain ⟨W0, rfl⟩ : ∃ W0 : World, W0 = wr := ⟨_, rfl⟩
        obtain ⟨q, hq⟩ : ∃ q, l.length = q := ⟨_, rfl⟩
        rw [hq] at hl0 hll
        rw [hq]
        have HQ := Lib.hid hq
        clear hq
        go_wp2_with (at_make; refine wpList_make_full _ rfl (.tmp 30) (.tmp 30) 77 rfl W0.heap.size 5 i0 (.int .u8 0) 1 Tryd.underlying77 hi hz0 hz1 .i64 .i64 _ _ q rfl rfl (by omega) (by omega) (by rw [hz2]; omega) (by unfold maxLen; omega) (Nat.le_refl _) ?_; intro w2 ho2 hg2)
        obtain ⟨r, hr⟩ : ∃ r, r = l.reverse := ⟨_, rfl⟩
        have hrl : r.length = q := by rw [hr, List.length_reverse, HQ.out]
        have hrg : ∀ j, (h : j < r.length) → ∃ h2 : q - 1 - j < l.length, r[j]'h = l[q - 1 - j]'h2 := fun j h => by
          subst hr
          refine ⟨by have := HQ.out; omega, ?_⟩
          rw [List.getElem_reverse]
          congr 1
          have := HQ.out; omega
        have ho3 : w2.ownsRow W0.heap.size 5 1 (.slice (some ⟨W0.heap.size, 0, none⟩) q q) q (bv (half r 0)) := by
          rw [half_none, hrl]
          have e : (madeCells (Value.cells (.int .u8 0)) (q * 1)).toList = List.replicate q (.int .u8 0) := by
            rw [Nat.mul_one]; exact toList_madeCells_one _ _
          rw [e] at ho2
          exact ho2
        have hb2 : Below W0.heap.size W0 w2 := ⟨hg2.os, hg2.tape, hg2.output, hg2.size, fun k hk => hg2.block k hk (by simp)⟩
        have HRL := Lib.hid hrl
        have HR := Lib.hid hr
        have HRG := Lib.hid hrg
        clear ho2 hg2 hrl hr hrg
        go_loopw [8] (fun v8 wr => ∃ i : Nat, i ≤ q ∧ v8 = .int .i64 i ∧ wr.ownsRow W0.heap.size 5 1 (.slice (some ⟨W0.heap.size, 0, none⟩) q q) q (bv (half r i)) ∧ Below W0.heap.size W0 wr) (fun v8 _ => q - (intOf v8).toNat)
        case atStart => exact ⟨0, by omega, rfl, ho3, hb2⟩
        case round =>
          clear ho3 hb2
          obtain ⟨i, hi, rfl, ho, hb⟩ := hrel
          by_cases hiq : i < q
          · obtain ⟨h2, hri⟩ := HRG.out i (by rw [HRL.out]; exact hiq)
            have hc := (hb.cell (p := ⟨gt, q - 1 - i, none⟩) hgt.2).trans (HC.out (q - 1 - i) h2)
            rw [← hri] at hc
            have hst := (ho.stored i (.int .u8 ((r[i]'(by rw [HRL.out]; exact hiq)).toNat : Nat))).1
            rw [half_step r i (by rw [HRL.out]; exact hiq)] at hst
            have hco : wr.cell? ⟨W0.heap.size, i, none⟩ = (bv (half r i))[i]? := ho.cellAt i (by omega)
            rw [bv_get _ _ (by rw [half_length r i (by rw [HRL.out]; omega), HRL.out]; exact hiq)] at hco
            have hfr := ho.frozenAt i
            obtain ⟨y, hy⟩ : ∃ y, ((r[i]'(by rw [HRL.out]; exact hiq)).toNat : Nat) = y := ⟨_, rfl⟩
            rw [hy] at hc hst
            clear hy hri
            go_wp2_with fail
            go_roundw
            case rel => exact ⟨i + 1, by omega, by go_num, hst, hb.setCell (Nat.le_refl _) _⟩
            case measure => simp [intOf]; omega
          · obtain rfl : i = q := by omega
            have hall : half r i = N.txt x := by
              have h1 := half_all r
              rw [HRL.out] at h1
              rw [h1, HR.out, HREV.out]
            rw [hall] at ho
            have hlt2 : (N.txt x).length = i := by rw [HREV.out, List.length_reverse, HQ.out]
            have hcv := run_convert_bytes_back (P := Tryd.prog) wr 77 9 5 ⟨W0.heap.size, 0, none⟩ i (N.txt x) Tryd.underlying77 Tryd.underlying5 Tryd.underlying9 (fun j hj => by
              rw [Addr.add_lit, Nat.zero_add, ho.cellAt j (by omega), bv_get _ j hj])
            rw [hlt2] at hcv
            clear ho hall hlt2
            go_wp2_with fail
            go_ret
            exact ⟨rfl, hbw.trans (hb.mono hz)⟩
      · have hm0 := ofN_len_pos hs.len hG
        have tm1 : decide ((m : Int) > 0) = true := decide_eq_true (by omega)
        have tm2 : decide (0 < (m : Int)) = true := decide_eq_true (by omega)
        have hml := hs.len
        have HML := Lib.hid hml
        clear hml
        go_wp2_with fail
        refine (rquo_any _ C m d _ 10 hs (by omega) (by omega) (by omega)).mono ?_
        rintro e w2 ⟨g2, n2, c2, rfl, ho2, hb2⟩
        rw [N.nv_ofN] at ho2 ⊢
        have hr10 := Nat.mod_lt G (show 0 < 10 by omega)
        have hdig := N.digc_toNat G
        obtain ⟨r, hrd⟩ : ∃ r, G % 10 = r := ⟨_, rfl⟩
        rw [hrd] at hr10 hdig ⊢
        have HDIG := Lib.hid hdig
        have hown2 := (hown.kept (gb_of_below hb2 none) (by cases hv : u4.ownBlock <;> simp)).alloc (.cells #[Value.int .u8 (48 + (r : Int))] 5)
        have hz2' := hb2.size
        clear hrd hdig hs
        go_wp2_with (at_builtin; refine wpList_append_src _ rfl (.tmp 22) (.tmp 26) 77 rfl w.heap.size 5 i0 (.int .u8 0) 1 1 Tryd.underlying77 hi hz0 hz1 hz2 rfl (by omega) _ l.length (bv l) rfl hown2 _ 1 1 (bv [N.digc G]) rfl rfl ?d1 ?d2 ?d3 ?d4 ?d5 ?_)
        case d1 =>
          intro _
          refine ⟨_, rfl, fun j u hu => ?_⟩
          have hj : j = 0 := by have := (List.getElem?_eq_some_iff.1 hu).1; simpa [bv] using this
          subst hj
          rw [Addr.add_lit, cell_of_row _ _ _ _ _ _ (heap_alloc_new w2 _)]
          simp only [bv, List.map_cons, List.map_nil, List.getElem?_cons_zero, Option.some.injEq] at hu
          rw [← hu, HDIG.out]
          simp
        case d2 => intro u hu; simp only [bv, List.map_cons, List.map_nil, List.mem_singleton] at hu; subst hu; rfl
        case d3 => unfold maxLen; omega
        case d4 => omega
        case d5 => simp; omega
        intro v' w3 hown3 hgr3 _
        have hb3 : Below w.heap.size w w3 := ((hbw.trans (hb2.mono hz)).alloc (by omega) _).grown hgr3 (by simp; omega) (fun k hk => (hown2.lt k hk).1)
        have hnum3 : Num w3 (.slice (some ⟨g2, 0, none⟩) n2 c2) n (G / 10) := by
          have h1 := ho2.below ((Below.refl _ _).alloc (Nat.le_refl _) (.cells #[Value.int .u8 (48 + (r : Int))] 5))
          have h2 : Own w3 wr.heap.size g2 n2 c2 (N.ofN (G / 10)) := by
            refine ⟨h1.own.kept hgr3 (.inr ?_), h1.lim, h1.full.block (hgr3.block g2 h1.base_le.2 ?_)⟩
            all_goals
              intro e
              have h3 := hown.lt g2 (by first | (rw [← e]; rfl) | rw [← e])
              have h4 := ho2.base_le
              omega
          refine num_own h2 ?_
          have h3 := N.ofN_length_mono (Nat.div_le_self G 10)
          have h4 := HML.out
          omega
        go_wp2_with fail
        go_roundg (G / 10)
        case measure => omega
        case rel =>
          refine ⟨l ++ [N.digc G], hnum3, ?_, ?_, hb3⟩
          · rw [bv_append, List.length_append]; exact hown3
          · rw [HTX.out, ahead_step G hG]; simp
end Go.Proofs.YtiidghfkdjefgaaDoor
