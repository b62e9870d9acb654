/-
  nat.Text: contract.
-/
import Derived.Test.YtiidghfkdjefgaaDoorBuild
import Derived.Test.YtiidghfkdjefgaaDoorDec
namespace Go.Proofs.YtiidghfkdjefgaaDoor
open Go.RowKit

theorem info_str : (Tryd.prog.info? 9).map (fun i => (i.zero, i.size, i.bytes)) = some (some (.string ByteArray.empty), 1, 16) := by kernel_rfl

/-- A string as a value. -/
def sv (l : List UInt8) : Value := .string ⟨l.toArray⟩
/-- Nine digits, from place 9 j on. -/
def chunk (n j : Nat) : List UInt8 := N.pad 9 (n / 10 ^ (9 * j))
def chunks (n k : Nat) : List Value := (List.range k).map fun j => sv (chunk n j)
theorem chunks_succ (n k : Nat) : chunks n (k + 1) = chunks n k ++ [sv (chunk n k)] := by simp [chunks, List.range_succ]
theorem chunks_length (n k : Nat) : (chunks n k).length = k := by simp [chunks]
theorem chunks_get (n k j : Nat) (h : j < k) : (chunks n k)[j]? = some (sv (chunk n j)) := by simp [chunks, h]

theorem ret_s {a b : List UInt8} (h : a = b) : Ending.returned (.string ⟨a.toArray⟩) = .returned (.string ⟨b.toArray⟩) := by rw [h]
theorem trim_pad {k n : Nat} (h0 : 0 < n) (h : n < 10 ^ k) : Lib.trimLeftB (N.pad k n) 48 = N.txt n := by
  obtain ⟨z, hz⟩ := N.pad_txt k n h0 h
  rw [hz]
  have h1 := N.txt_head h0
  clear hz
  induction z with
  | zero =>
    simp only [List.replicate_zero, List.nil_append, Lib.trimLeftB]
    cases hx : N.txt n with
    | nil => rfl
    | cons c l =>
      rw [hx] at h1
      have : (c == 48) = false := by simpa using h1
      rw [List.dropWhile_cons, this]; rfl
  | succ z ih => rw [List.replicate_succ, List.cons_append, Lib.trimLeftB, List.dropWhile_cons]; exact ih
theorem pad_mod (k n : Nat) : N.pad k (n % 10 ^ k) = N.pad k n := by
  induction k generalizing n with
  | zero => rfl
  | succ k ih =>
    have e1 : n % 10 ^ (k + 1) / 10 = n / 10 % 10 ^ k := by rw [Nat.pow_succ, Nat.mul_comm, Nat.mod_mul_right_div_self]
    have e2 : N.digc (n % 10 ^ (k + 1)) = N.digc n := by
      unfold N.digc
      rw [Nat.pow_succ, Nat.mod_mul_left_mod]
    rw [N.pad, N.pad, e1, e2, ih]
theorem text_bound {n L k : Nat} (h : n < 4294967296 ^ L) (h0 : 0 < n / 10 ^ (9 * k)) : k ≤ 2 * L := by
  rcases Nat.lt_or_ge (2 * L) k with h1 | h1
  · have h2 : 4294967296 ^ L = 65536 ^ (2 * L) := by rw [Nat.pow_mul]
    have h3 : 65536 ^ (2 * L) ≤ 65536 ^ k := Nat.pow_le_pow_right (by omega) (by omega)
    have h4 : 65536 ^ k ≤ 1000000000 ^ k := Nat.pow_le_pow_left (by omega) k
    have h5 : 10 ^ (9 * k) = 1000000000 ^ k := by rw [Nat.pow_mul]
    rw [Nat.div_eq_of_lt (by rw [h5]; omega)] at h0
    omega
  · exact h1

theorem enc_digit (x : Nat) : Utf8.encode (48 + (x : Int) % 10) = ⟨#[N.digc x]⟩ := by
  have e : (48 + (x : Int) % 10) = ((48 + x % 10 : Nat) : Int) := by omega
  have hv : Utf8.valid ((48 + x % 10 : Nat) : Int) = true := by
    simp only [Utf8.valid]
    simp
    omega
  rw [e]
  unfold Utf8.encode
  simp only [hv, if_true, Int.toNat_natCast]
  rw [if_pos (by omega)]
  rfl
theorem pad_front (j r : Nat) : N.pad (j + 1) r = N.digc (r / 10 ^ j) :: N.pad j r := by
  rw [Nat.add_comm, N.pad_add]; simp [N.pad]
theorem add_digit (j r x : Nat) (h : r / 10 ^ j = x) : Value.string (Utf8.encode (48 + (x : Int) % 10) ++ ⟨(N.pad j r).toArray⟩) = sv (N.pad (j + 1) r) := by
  rw [enc_digit, pad_front, h]
  rfl

set_option maxRecDepth 100000 in
set_option maxHeartbeats 2000000 in
theorem text_pos (w : World) (A : Option Addr) (n c : Nat) (a : List Nat) (ha : Sl w A n c a) (hn : n ≤ 1099511627776) (h0 : 0 < N.nv a) :
    Calls Tryd.prog 61 #[.slice A n c] w fun e w' => e = .returned (.string ⟨(N.txt (N.nv a)).toArray⟩) ∧ Below w.heap.size w w' := by
  obtain ⟨i0, hi, iz0, iz1, iz2⟩ := info_parts info_str
  have hA := ha.bare
  have hla := N.nv_len_le ha.lim
  rw [ha.len] at hla
  have hnv := N.nv_lt ha.lim
  rw [ha.len] at hnv
  generalize hN : N.nv a = M at *
  have HN := Lib.hid hN
  clear hN
  go_enter Tryd.func61, Tryd.ntmps61
  go_wp2_with fail
  refine (bare_any _ A n c a ha (by omega)).mono ?_
  rintro e w' ⟨rfl, rfl⟩
  rw [HN.out]
  go_wp2_with fail
  go_loopg [3, 4] M (fun gk v3 v4 wr => ∃ (k : Nat) (B : Option Addr) (m d : Nat), gk = M / 10 ^ (9 * k) ∧ v4 = .slice B m d ∧ Sl wr B m d (N.ofN gk) ∧ wr.ownsRow w.heap.size 9 1 v3 k (chunks M k) ∧ Below w.heap.size w wr ∧ m ≤ n ∧ k ≤ 2 * n + 1)
  case atStart => exact ⟨0, _, _, _, by simp, rfl, hA, World.ownsRow_nil _ _ _ _, Below.refl _ _, hla, by omega⟩
  case round =>
    obtain ⟨G, rfl⟩ : ∃ G : Nat, G = gk := ⟨_, rfl⟩
    obtain ⟨k, B, m, d, hgk, rfl, hsl, hown, hbw, hmn, hkn⟩ := hrel
    have HGK := Lib.hid hgk
    clear hgk
    have hlen := hsl.len
    have HLen := Lib.hid hlen
    clear hlen
    by_cases hg0 : G = 0
    · subst hg0
      have hm0 : m = 0 := by have := HLen.out; simpa [N.ofN_zero] using this.symm
      subst hm0
      have hk0 : 0 < k := by
        rcases Nat.eq_zero_or_pos k with h | h
        · subst h; have := HGK.out; simp at this; omega
        · exact h
      rcases hown.2 with ⟨_, h⟩ | ⟨gp, capp, curp, rfl, hgb, hheap, hkc, hcm, hcs, htk⟩
      · omega
      clear hgb hheap hkc hcm hcs htk
      have hgp := hown.lt gp rfl
      have hMk : M < 10 ^ (9 * k) := by
        have h3 := HGK.out
        rcases Nat.lt_or_ge M (10 ^ (9 * k)) with h | h
        · exact h
        · have := Nat.div_pos h (Nat.pow_pos (by omega)); omega
      have t0 : ((k : Int) == 0) = false := by simp; omega
      have HM := Lib.hid hMk
      clear hMk
      go_wp2_with fail
      obtain ⟨W0, rfl⟩ : ∃ W0 : World, W0 = wr := ⟨_, rfl⟩
      have hz0 := hbw.size
      go_loopw [9] (fun v9 wr => ∃ r : Nat, r ≤ k ∧ ((r = 0 ∧ v9 = .int .i64 (-1)) ∨ ∃ j : Nat, r = j + 1 ∧ v9 = .int .i64 j) ∧ Lib.IsBuilder 81 5 W0.heap.size W0.heap.size (Lib.byteCells (N.pad (9 * (k - r)) (M / 10 ^ (9 * r)))) wr ∧ Below W0.heap.size W0 wr) (fun v9 _ => (intOf v9 + 1).toNat)
      case atStart => exact ⟨k, Nat.le_refl _, .inr ⟨k - 1, by omega, by go_num⟩, by rw [Nat.sub_self]; exact Lib.fresh_isBuilder _ _ _, (Below.refl _ _).alloc (Nat.le_refl _) _⟩
      case round =>
        obtain ⟨r, hrk, hcase, hbu, hbb⟩ := hrel
        have HBU := Lib.hid hbu
        clear hbu
        rcases hcase with ⟨rfl, rfl⟩ | ⟨j, rfl, rfl⟩
        · go_wp2_with fail
          have hbu := HBU.out
          rw [show M / 10 ^ (9 * 0) = M from by simp] at hbu
          refine (Go.Proofs.Tryd.Builder_String_any W0.heap.size W0.heap.size _ _ hbu hbb.size).mono ?_
          rintro e w5 ⟨rfl, hb5⟩
          go_wp2_with fail
          refine (Go.Proofs.Tryd.strings_TrimLeft_one _ 48 (by decide) _).mono ?_
          rintro e w6 ⟨rfl, rfl⟩
          go_wp2_with fail
          go_ret
          exact ⟨ret_s (trim_pad h0 HM.out), hbw.trans ((hbb.trans hb5).mono hz0)⟩
        · have hcj : W0.cell? ⟨gp, j, none⟩ = some (sv (chunk M j)) := by rw [hown.cellAt j (by omega), chunks_get _ _ _ (by omega)]
          have hcj' := (hbb.cell (p := ⟨gp, j, none⟩) hgp.2).trans hcj
          unfold sv at hcj'
          have hlen1 : (Lib.byteCells (N.pad (9 * (k - (j + 1))) (M / 10 ^ (9 * (j + 1))))).length ≤ 9 * k := by simp [Lib.byteCells, N.pad_length]; omega
          have hlen2 : (⟨(chunk M j).toArray⟩ : ByteArray).size = 9 := by show (chunk M j).toArray.size = 9; simp [chunk, N.pad_length]
          have HL2 := Lib.hid hlen2
          clear hlen2
          go_wp2_with fail
          refine (writeString_any W0.heap.size W0.heap.size _ ⟨(chunk M j).toArray⟩ _ HBU.out (by rw [HL2.out]; omega) hbb.size).mono ?_
          rintro e w5 ⟨rfl, hbu5, hb5⟩
          go_wp2_with fail
          go_roundw
          case rel =>
            refine ⟨j, by omega, ?_, .inr ?_, hbb.trans hb5⟩
            · by_cases hj0 : j = 0
              · subst hj0; exact .inl ⟨rfl, rfl⟩
              · exact .inr ⟨j - 1, by omega, by go_num⟩
            · have e : Lib.byteCells (N.pad (9 * (k - j)) (M / 10 ^ (9 * j))) = Lib.byteCells (N.pad (9 * (k - (j + 1))) (M / 10 ^ (9 * (j + 1)))) ++ Lib.strCells ⟨(chunk M j).toArray⟩ := by
                rw [show 9 * (k - j) = 9 * (k - (j + 1)) + 9 from by omega, N.pad_add, Nat.div_div_eq_div_mul, ← Nat.pow_add, show 9 * j + 9 = 9 * (j + 1) from by omega]
                simp [Lib.byteCells, Lib.strCells, chunk]
              rw [e]; exact hbu5
          case measure => simp [intOf]
    · have hm0 : 0 < m := by
        rcases Nat.eq_zero_or_pos m with h | h
        · have h2 := HLen.out
          rw [h] at h2
          have h3 := List.eq_nil_of_length_eq_zero h2
          rw [N.ofN_eq_nil] at h3; omega
        · exact h
      have hvg := N.nv_ofN G
      have HVG := Lib.hid hvg
      clear hvg
      go_wp2_with fail
      refine (short_any _ B m d (N.ofN G) 1000000000 hsl (by omega) (by omega) (by omega)).mono ?_
      rintro e w1 ⟨g1, n1, c1, rfl, ho1, hb1⟩
      rw [HVG.out] at ho1 ⊢
      have hr := Nat.mod_lt G (show 0 < 1000000000 by omega)
      obtain ⟨r, hrd⟩ : ∃ r, r = G % 1000000000 := ⟨_, rfl⟩
      rw [← hrd] at hr ⊢
      have HR := Lib.hid hrd.symm
      clear hrd
      obtain ⟨wo, rfl⟩ : ∃ wo : World, wo = wr := ⟨_, rfl⟩
      go_wp2_with fail
      go_loopg [6, 7, 20] 9 (fun gj v6 v7 v20 wr => ∃ j : Nat, gj + j = 9 ∧ v20 = .int .i64 (j : Nat) ∧ v6 = .int .u32 (r / 10 ^ j : Nat) ∧ v7 = sv (N.pad j r) ∧ w1 = wr)
      case atStart => exact ⟨0, rfl, rfl, by simp, rfl, rfl⟩
      case round =>
        obtain ⟨j, hj, rfl, rfl, rfl, rfl⟩ := hrel
        by_cases hj9 : j < 9
        · have hx : r / 10 ^ j < 1000000000 := Nat.lt_of_le_of_lt (Nat.div_le_self _ _) hr
          generalize hxe : r / 10 ^ j = x at *
          have HX := Lib.hid hxe
          clear hxe
          unfold sv
          go_wp2_with fail
          · exfalso
            have h : 9223372036854775807 < (Utf8.encode (48 + (x : Int) % 10)).size + (N.pad j r).length := by assumption
            rw [enc_digit, N.pad_length] at h
            have h2 : (⟨#[N.digc x]⟩ : ByteArray).size = 1 := rfl
            omega
          go_roundg (gk - 1)
          case measure => omega
          case rel =>
            refine ⟨j + 1, by omega, by go_num, ?_, add_digit j r x HX.out, rfl⟩
            have e : r / 10 ^ (j + 1) = x / 10 := by rw [← HX.out, Nat.div_div_eq_div_mul, Nat.pow_succ]
            rw [e]; go_num
        · obtain rfl : j = 9 := by omega
          unfold sv
          have hown1 := (hown.kept (gb_of_below hb1 none) (by cases hv : u3.ownBlock <;> simp)).alloc (.cells #[Value.string ⟨(N.pad 9 r).toArray⟩] 9)
          have hz1 := hbw.size
          have hz2 := hb1.size
          have hkb : k ≤ 2 * n := text_bound hnv (by have := HGK.out; omega)
          go_wp2_with (at_builtin; refine wpList_append_src _ rfl (.tmp 32) (.tmp 34) 78 rfl w.heap.size 9 i0 (.string ByteArray.empty) 1 16 Tryd.underlying78 hi iz0 iz1 iz2 rfl (by decide) _ k _ rfl hown1 _ 1 1 [Value.string ⟨(N.pad 9 r).toArray⟩] rfl rfl ?d1 ?d2 ?d3 ?d4 ?d5 ?_)
          case d1 =>
            intro _
            refine ⟨_, rfl, fun j u hu => ?_⟩
            rw [Addr.add_lit, cell_of_row _ _ _ _ _ _ (heap_alloc_new w1 _)]
            simpa using hu
          case d2 => intro u hu; simp at hu; subst hu; rfl
          case d3 => unfold maxLen; omega
          case d4 => omega
          case d5 => simp; omega
          intro v' w2 hown2 hgr2 _
          have hown3 : w2.ownsRow w.heap.size 9 1 v' (k + 1) (chunks M (k + 1)) := by
            have e : sv (chunk M k) = Value.string ⟨(N.pad 9 r).toArray⟩ := by
              unfold chunk
              rw [← HGK.out, sv, ← HR.out, pad_mod]
            rw [chunks_succ, e]; exact hown2
          have hb2 : Below w.heap.size w w2 := ((hbw.trans (hb1.mono hz1)).alloc (by omega) _).grown hgr2 (by simp; omega) (fun k hk => (hown1.lt k hk).1)
          have hg1 := ho1.base_le
          have ho2 := ho1.below ((Below.refl _ _).alloc (Nat.le_refl _) (.cells #[Value.string ⟨(N.pad 9 r).toArray⟩] 9))
          go_wp2_with fail
          have hnext : M / 10 ^ (9 * (k + 1)) = G / 1000000000 := by
            rw [HGK.out, Nat.div_div_eq_div_mul, show 9 * (k + 1) = 9 * k + 9 from by omega, Nat.pow_add]
          go_roundg (M / 10 ^ (9 * (k + 1)))
          case measure => rw [hnext]; omega
          case rel =>
            rw [hnext]
            have hn1 : n1 ≤ n := by
              have h3 := ho1.len
              have h4 := N.ofN_length_mono (Nat.div_le_self G 1000000000)
              have h5 := HLen.out
              omega
            have ho3 : Own w2 wo.heap.size g1 n1 c1 (N.ofN (G / 1000000000)) := by
              refine ⟨ho2.own.kept hgr2 (.inr ?_), ho2.lim, ho2.full.block (hgr2.block g1 ho2.base_le.2 ?_)⟩
              all_goals
                intro e
                have := hown.lt g1 (by first | (rw [← e]; rfl) | rw [← e])
                omega
            exact ⟨k + 1, _, _, _, hnext.symm, rfl, ho3.sl, hown3, hb2, hn1, by omega⟩

set_option maxRecDepth 100000 in
set_option maxHeartbeats 400000 in
theorem text_zero (w : World) (A : Option Addr) (n c : Nat) (a : List Nat) (ha : Sl w A n c a) (hn : n ≤ 1099511627776) (h0 : N.nv a = 0) :
    Calls Tryd.prog 61 #[.slice A n c] w fun e w' => e = .returned (.string ⟨(N.txt (N.nv a)).toArray⟩) ∧ Below w.heap.size w w' := by
  have hlen : (N.ofN (N.nv a)).length = 0 := by rw [h0]; rfl
  have htx : N.txt (N.nv a) = [48] := by rw [h0]; rfl
  rw [htx]
  go_enter Tryd.func61, Tryd.ntmps61
  have HL := Lib.hid hlen
  clear hlen htx h0
  go_wp2_with fail
  refine (bare_any _ A n c a ha (by omega)).mono ?_
  rintro e w' ⟨rfl, rfl⟩
  rw [HL.out]
  go_wp2_with fail
  refine wp_loop_rounds 1 ?_
  rw [rounds_succ]
  go_wp2_with fail
  go_ret
  exact ⟨rfl, Below.refl _ _⟩
theorem text_any (w : World) (A : Option Addr) (n c : Nat) (a : List Nat) (ha : Sl w A n c a) (hn : n ≤ 1099511627776) :
    Calls Tryd.prog 61 #[.slice A n c] w fun e w' => e = .returned (.string ⟨(N.txt (N.nv a)).toArray⟩) ∧ Below w.heap.size w w' := by
  rcases Nat.eq_zero_or_pos (N.nv a) with h | h
  · exact text_zero w A n c a ha hn h
  · exact text_pos w A n c a ha hn h
end Go.Proofs.YtiidghfkdjefgaaDoor
