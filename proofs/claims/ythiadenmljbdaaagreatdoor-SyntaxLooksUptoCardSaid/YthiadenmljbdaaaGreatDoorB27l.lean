/-
  l: the parts YNText YZText.
-/
import Derived.Test.YthiadenmljbdaaaGreatDoorB24l
import Derived.Test.YthiadenmljbdaaaGreatDoorB3l
import Derived.Test.YthiadenmljbdaaaGreatDoorB2l
import Derived.Test.YthiadenmljbdaaaGreatDoorB6l
import Derived.Laws.Concat
import Derived.Deep.RegionHeld3
import Derived.Deep.QuietTactic
import Derived.BigQuiet
namespace Go.Proofs.YthiadenmljbdaaaGreatDoor
section
open Go.RowKit
set_option maxHeartbeats 400000 in
theorem bare_any (w : World) (A : Option Addr) (n c : Nat) (l : List Nat) (h : Sl w A n c l) (hm : n ≤ 9223372036854775807) :
    Calls Tryz.prog 123 #[.slice A n c] w fun e w' => e = .returned (.slice A (N.ofN (N.nv l)).length (N.ofN (N.nv l)).length) ∧ w = w' := by
  have hcap := h.cap
  go_enter Tryz.func123, Tryz.ntmps123
  go_wp2
  go_step3
  go_wp2
  go_step3
  go_wp2
  go_loop [3] (fun v => ∃ k : Nat, k ≤ n ∧ v = .int .i64 k ∧ ∀ j, k ≤ j → j < n → N.dg l j = 0) (fun v => (intOf v).toNat)
  case atStart => exact ⟨n, Nat.le_refl _, rfl, fun j h1 h2 => by omega⟩
  case round =>
   obtain ⟨k, hk, rfl, hz⟩ := hrel
   have HZ := Lib.hid hz
   clear hz
   by_cases hk0 : k = 0
   · subst hk0
     go_wp2
     go_ret
     have e : (N.ofN (N.nv l)).length = 0 := N.bare_len h.lim (by omega) (fun j h1 h2 => HZ.out j h1 (by rw [h.len] at h2; exact h2)) (.inl rfl)
     rw [e]
     exact ⟨rfl, rfl⟩
   ·
    obtain ⟨b, o, rfl, hc⟩ := h.cells (by omega)
    have hck := hc (k - 1) (by omega)
    clear hc
    go_wp2
    · have ht : ((N.dg l (k - 1) : Int) != 0) = true := by assumption
      go_ret
      have e : (N.ofN (N.nv l)).length = k := N.bare_len h.lim (by rw [h.len]; exact hk) (fun j h1 h2 => HZ.out j h1 (by rw [h.len] at h2; exact h2)) (.inr (by simpa using ht))
      rw [e]
      exact ⟨rfl, rfl⟩
    ·
     have ht : ((N.dg l (k - 1) : Int) != 0) = false := by assumption
     go_round
     case rel =>
      refine ⟨k - 1, by omega, by go_num, fun j h1 h2 => ?_⟩
      rcases Nat.lt_or_ge j k with h3 | h3
      · obtain rfl : j = k - 1 := by omega
        simpa using ht
      · exact HZ.out j h3 h2
     case measure => simp [intOf]; omega
set_option maxHeartbeats 400000 in
theorem own_any (w : World) (A : Option Addr) (n c : Nat) (l : List Nat) (h : Sl w A n c l) (hm : n ≤ 35184372088832) :
    Calls Tryz.prog 173 #[.slice A n c] w fun e w' => ∃ g n' c', e = .returned (.slice (some ⟨g, 0, none⟩) n' c') ∧ Own w' w.heap.size g n' c' (N.ofN (N.nv l)) ∧ Below w.heap.size w w' := by
  go_enter Tryz.func173, Tryz.ntmps173
  obtain ⟨i0, hi, hz0, hz1, hz2⟩ := info_parts info_u32
  have hb := h.bare
  have hle := N.nv_len_le h.lim
  have hlen := h.len
  have hB : Below w.heap.size w (w.alloc (.cells #[] 69)) := (Below.refl _ _).alloc (Nat.le_refl _) _
  have hs1 := h.below hB
  have hown : Own (w.alloc (.cells #[] 69)) w.heap.size w.heap.size 0 0 [] := Own.empty w
  have hn1 := (hb.below hB).news
  have HL := Lib.hid hlen
  clear hlen
  have hm1 : 0 + (N.ofN (N.nv l)).length ≤ 35184372088832 := by have := HL.out; omega
  go_wp2_with (first
   | (go_at_call 123; refine (bare_any _ A n c l hs1 (by omega)).mono ?_; rintro e w' ⟨rfl, rfl⟩)
   | (at_builtin; refine wpList_append_lim _ rfl (.tmp 3) (.tmp 5) 23 rfl w.heap.size i0 Tryz.underlying23 hi hz0 hz1 hz2 _ _ _ _ rfl hown _ _ _ (N.ofN (N.nv l)) rfl rfl (N.lim_ofN _) hn1 hm1 (by simp) _ (Nat.zero_add _) _ (List.nil_append _) ?_; intro g cap w1 hown' hgrow))
  have hb1 : Below w.heap.size w _ := hB.grown (by assumption) (by simp) (by intro k hk; simp at hk; omega)
  go_ret
  exact ⟨_, _, _, rfl, by assumption, hb1⟩
theorem or_join (r x : Nat) (hr : r < 4294967296) (hx : x < 4294967296) : bits .or .u64 ((r : Int) * 4294967296) (x : Int) = ((r * 4294967296 + x : Nat) : Int) := by
 rw [show (r : Int) * 4294967296 = ((r * 4294967296 : Nat) : Int) from by omega, u64_or_nat _ _ (by omega) (by omega), nat_join 32 _ _ (by simp only [Nat.reducePow]; omega) (by simp only [Nat.reducePow]; omega)]
theorem quo_lt {r x b : Nat} (hr : r < b) (hx : x < 4294967296) : (r * 4294967296 + x) / b < 4294967296 := by
 rw [Nat.div_lt_iff_lt_mul (by omega)]
 have h3 : (r + 1) * 4294967296 ≤ b * 4294967296 := Nat.mul_le_mul_right _ hr
 omega
set_option maxHeartbeats 800000 in
theorem short_any (w : World) (A : Option Addr) (n c : Nat) (a : List Nat) (b : Nat) (ha : Sl w A n c a) (hn : n ≤ 35184372088832) (hb0 : 0 < b) (hb : b < 4294967296) :
    Calls Tryz.prog 166 #[.slice A n c, .int .u32 b] w fun e w' => ∃ g n' c', e = .returned (.tuple #[.slice (some ⟨g, 0, none⟩) n' c', .int .u32 (N.nv a % b : Nat)]) ∧ Own w' w.heap.size g n' c' (N.ofN (N.nv a / b)) ∧ Below w.heap.size w w' := by
  obtain ⟨i0, hi, hz0, hz1, hz2⟩ := info_parts info_u32
  have hlen := ha.len
  have hlim := ha.lim
  go_enter Tryz.func166, Tryz.ntmps166
  have HL := Lib.hid hlen
  clear hlen
  go_wp2_with (at_make; refine wpList_make_lim _ rfl (.tmp 10) (.tmp 10) 23 rfl i0 Tryz.underlying23 hi hz0 hz1 hz2 .i64 .i64 _ _ n rfl rfl (by omega) (by omega) (by omega) ?_; intro w1 ho1 hb1)
  go_loopw [7, 8] (fun v7 v8 wr => Below w.heap.size w wr ∧ ((v8 = .int .i64 (-1) ∧ v7 = .int .u64 (N.nv a % b : Nat) ∧ Own wr w.heap.size w.heap.size n n (N.divQ b a)) ∨
      ∃ j : Nat, j < n ∧ v8 = .int .i64 j ∧ v7 = .int .u64 (N.nv (a.drop (j + 1)) % b : Nat) ∧ Own wr w.heap.size w.heap.size n n (N.divS b a (j + 1)))) (fun _ v8 _ => (intOf v8 + 1).toNat)
  case atStart =>
   refine ⟨by assumption, ?_⟩
   have ho := ‹Own _ w.heap.size w.heap.size n n (List.replicate n 0)›
   by_cases h0 : n = 0
   · subst h0
     have : a = [] := List.eq_nil_of_length_eq_zero HL.out
     subst this
     exact .inl ⟨rfl, rfl, ho⟩
   · refine .inr ⟨n - 1, by omega, by go_num, ?_, ?_⟩
     · rw [show n - 1 + 1 = a.length from by have := HL.out; omega, List.drop_length]; rfl
     · rw [show n - 1 + 1 = a.length from by have := HL.out; omega, N.divS_none, HL.out]; exact ho
  case round =>
   obtain ⟨hbw, hrel⟩ := hrel
   rcases hrel with ⟨rfl, rfl, hown⟩ | ⟨j, hj, rfl, rfl, hown⟩
   · have hr := Nat.mod_lt (N.nv a) hb0
     go_wp2_with (go_at_call 173; refine (own_any _ _ _ _ _ hown.sl (by omega)).mono ?_; rintro e w5 ⟨g5, n5, c5, rfl, ho5, hb5⟩)
     go_ret2
     rw [N.divQ_nv hb0] at ho5
     exact ⟨g5, n5, c5, rfl, ho5.mono hbw.size, hbw.trans (hb5.mono hbw.size)⟩
   ·
    have hr := Nat.mod_lt (N.nv (a.drop (j + 1))) hb0
    obtain ⟨bx, ox, rfl, hcx⟩ := (ha.below hbw).cells (by omega)
    have hc1 := hcx j hj
    have hx := N.dg_lt hlim j
    clear hcx
    have hc3 := hown.cell j hj
    have hf3 := hown.free j
    have hmod := N.divQ_mod b (N.dg a j) (a.drop (j + 1))
    have HM := Lib.hid hmod
    clear hmod
    have hstep := N.divS_step b a j (by have := HL.out; omega)
    have hds : a.drop j = N.dg a j :: a.drop (j + 1) := by rw [List.drop_eq_getElem_cons (by have := HL.out; omega), N.dg_get a j (by have := HL.out; omega)]
    have HS := Lib.hid hstep
    have HD := Lib.hid hds
    clear hstep hds
    generalize N.nv (a.drop (j + 1)) % b = r at *
    generalize N.dg a j = x at *
    have hor := or_join r x (by omega) hx
    have hql := quo_lt hr hx
    generalize r * 4294967296 + x = y at *
    have hq1 : (y : Int) / (b : Int) ≤ 4294967295 := by rw [← Int.natCast_ediv]; omega
    have hq0 : 0 ≤ (y : Int) / (b : Int) := by rw [← Int.natCast_ediv]; exact Int.natCast_nonneg _
    have hb1 : 1 ≤ (b : Int) := by omega
    go_wp2_with fail
    go_roundw
    case rel =>
     have hnew := hown.set' j (y / b) hql _ (Int.natCast_ediv y b).symm
     rw [HS.out] at hnew
     refine ⟨hbw.setCell (Nat.le_refl _) _, ?_⟩
     by_cases hj0 : j = 0
     · subst hj0
       refine .inl ⟨rfl, ?_, ?_⟩
       · have e := HM.out
         rw [← HD.out, List.drop_zero] at e
         rw [← e]; go_num
       · rw [← N.divS_all]; exact hnew
     · refine .inr ⟨j - 1, by omega, by go_num, ?_, ?_⟩
       · rw [show j - 1 + 1 = j from by omega]
         have e := HM.out
         rw [← HD.out] at e
         rw [← e]; go_num
       · rw [show j - 1 + 1 = j from by omega]; exact hnew
    case measure => simp [intOf]
theorem info_str : (Tryz.prog.info? 9).map (fun i => (i.zero, i.size, i.bytes)) = some (some (.string ByteArray.empty), 1, 16) := by kernel_rfl
def sv (l : List UInt8) : Value := .string ⟨l.toArray⟩
def chunk (n j : Nat) : List UInt8 := N.pad 9 (n / 10 ^ (9 * j))
def chunks (n k : Nat) : List Value := (List.range k).map fun j => sv (chunk n j)
theorem chunks_succ (n k : Nat) : chunks n (k + 1) = chunks n k ++ [sv (chunk n k)] := by simp [chunks, List.range_succ]
theorem chunks_get (n k j : Nat) (h : j < k) : (chunks n k)[j]? = some (sv (chunk n j)) := by simp [chunks, h]
theorem ret_s {a b : List UInt8} (h : a = b) : Ending.returned (.string ⟨a.toArray⟩) = .returned (.string ⟨b.toArray⟩) := by rw [h]
theorem trim_pad {k n : Nat} (h0 : 0 < n) (h : n < 10 ^ k) : Lib.trimLeftB (N.pad k n) 48 = N.txt n := by
 obtain ⟨z, hz⟩ := N.pad_txt k n h0 h
 rw [hz]
 have h1 := N.txt_head h0
 clear hz
 induction z with
 | zero =>
  simp only [List.replicate_zero, List.nil_append, Lib.trimLeftB]
  cases hx : N.txt n with
  | nil => rfl
  | cons c l =>
   rw [hx] at h1
   have : (c == 48) = false := by simpa using h1
   rw [List.dropWhile_cons, this]; rfl
 | succ z ih => rw [List.replicate_succ, List.cons_append, Lib.trimLeftB, List.dropWhile_cons]; exact ih
theorem pad_mod (k n : Nat) : N.pad k (n % 10 ^ k) = N.pad k n := by
 induction k generalizing n with
 | zero => rfl
 | succ k ih =>
  have e1 : n % 10 ^ (k + 1) / 10 = n / 10 % 10 ^ k := by rw [Nat.pow_succ, Nat.mul_comm, Nat.mod_mul_right_div_self]
  have e2 : N.digc (n % 10 ^ (k + 1)) = N.digc n := by
   unfold N.digc
   rw [Nat.pow_succ, Nat.mod_mul_left_mod]
  rw [N.pad, N.pad, e1, e2, ih]
theorem text_bound {n L k : Nat} (h : n < 4294967296 ^ L) (h0 : 0 < n / 10 ^ (9 * k)) : k ≤ 2 * L := by
 rcases Nat.lt_or_ge (2 * L) k with h1 | h1
 ·
  have h2 : 4294967296 ^ L = 65536 ^ (2 * L) := by rw [Nat.pow_mul]
  have h3 : 65536 ^ (2 * L) ≤ 65536 ^ k := Nat.pow_le_pow_right (by omega) (by omega)
  have h4 : 65536 ^ k ≤ 1000000000 ^ k := Nat.pow_le_pow_left (by omega) k
  have h5 : 10 ^ (9 * k) = 1000000000 ^ k := by rw [Nat.pow_mul]
  rw [Nat.div_eq_of_lt (by rw [h5]; omega)] at h0
  omega
 · exact h1
theorem enc_digit (x : Nat) : Utf8.encode (48 + (x : Int) % 10) = ⟨#[N.digc x]⟩ := by
 have e : (48 + (x : Int) % 10) = ((48 + x % 10 : Nat) : Int) := by omega
 have hv : Utf8.valid ((48 + x % 10 : Nat) : Int) = true := by
  simp only [Utf8.valid]
  simp
  omega
 rw [e]
 unfold Utf8.encode
 simp only [hv, if_true, Int.toNat_natCast]
 rw [if_pos (by omega)]
 rfl
theorem pad_front (j r : Nat) : N.pad (j + 1) r = N.digc (r / 10 ^ j) :: N.pad j r := by
 rw [Nat.add_comm, N.pad_add]; simp [N.pad]
theorem add_digit (j r x : Nat) (h : r / 10 ^ j = x) : Value.string (Utf8.encode (48 + (x : Int) % 10) ++ ⟨(N.pad j r).toArray⟩) = sv (N.pad (j + 1) r) := by
 rw [enc_digit, pad_front, h]
 rfl
set_option maxRecDepth 100000 in
set_option maxHeartbeats 2000000 in
theorem text_pos (w : World) (A : Option Addr) (n c : Nat) (a : List Nat) (ha : Sl w A n c a) (hn : n ≤ 1099511627776) (h0 : 0 < N.nv a) :
    Calls Tryz.prog 147 #[.slice A n c] w fun e w' => e = .returned (.string ⟨(N.txt (N.nv a)).toArray⟩) ∧ Below w.heap.size w w' := by
  obtain ⟨i0, hi, iz0, iz1, iz2⟩ := info_parts info_str
  have hA := ha.bare
  have hla := N.nv_len_le ha.lim
  rw [ha.len] at hla
  have hnv := N.nv_lt ha.lim
  rw [ha.len] at hnv
  generalize hN : N.nv a = M at *
  have HN := Lib.hid hN
  clear hN
  go_enter Tryz.func147, Tryz.ntmps147
  go_wp2_with fail
  refine (bare_any _ A n c a ha (by omega)).mono ?_
  rintro e w' ⟨rfl, rfl⟩
  rw [HN.out]
  go_wp2_with fail
  go_loopg [3, 4] M (fun gk v3 v4 wr => ∃ (k : Nat) (B : Option Addr) (m d : Nat), gk = M / 10 ^ (9 * k) ∧ v4 = .slice B m d ∧ Sl wr B m d (N.ofN gk) ∧ wr.ownsRow w.heap.size 9 1 v3 k (chunks M k) ∧ Below w.heap.size w wr ∧ m ≤ n ∧ k ≤ 2 * n + 1)
  case atStart => exact ⟨0, _, _, _, by simp, rfl, hA, World.ownsRow_nil _ _ _ _, Below.refl _ _, hla, by omega⟩
  case round =>
   obtain ⟨G, rfl⟩ : ∃ G : Nat, G = gk := ⟨_, rfl⟩
   obtain ⟨k, B, m, d, hgk, rfl, hsl, hown, hbw, hmn, hkn⟩ := hrel
   have HGK := Lib.hid hgk
   clear hgk
   have hlen := hsl.len
   have HLen := Lib.hid hlen
   clear hlen
   by_cases hg0 : G = 0
   ·
    subst hg0
    have hm0 : m = 0 := by have := HLen.out; simpa [N.ofN_zero] using this.symm
    subst hm0
    have hk0 : 0 < k := by
     rcases Nat.eq_zero_or_pos k with h | h
     · subst h; have := HGK.out; simp at this; omega
     · exact h
    rcases hown.2 with ⟨_, h⟩ | ⟨gp, capp, curp, rfl, hgb, hheap, hkc, hcm, hcs, htk⟩
    · omega
    clear hgb hheap hkc hcm hcs htk
    have hgp := hown.lt gp rfl
    have hMk : M < 10 ^ (9 * k) := by
     have h3 := HGK.out
     rcases Nat.lt_or_ge M (10 ^ (9 * k)) with h | h
     · exact h
     · have := Nat.div_pos h (Nat.pow_pos (by omega)); omega
    have t0 : ((k : Int) == 0) = false := by simp; omega
    have HM := Lib.hid hMk
    clear hMk
    go_wp2_with fail
    obtain ⟨W0, rfl⟩ : ∃ W0 : World, W0 = wr := ⟨_, rfl⟩
    have hz0 := hbw.size
    go_loopw [9] (fun v9 wr => ∃ r : Nat, r ≤ k ∧ ((r = 0 ∧ v9 = .int .i64 (-1)) ∨ ∃ j : Nat, r = j + 1 ∧ v9 = .int .i64 j) ∧ Lib.IsBuilder 77 5 W0.heap.size W0.heap.size (Lib.byteCells (N.pad (9 * (k - r)) (M / 10 ^ (9 * r)))) wr ∧ Below W0.heap.size W0 wr) (fun v9 _ => (intOf v9 + 1).toNat)
    case atStart => exact ⟨k, Nat.le_refl _, .inr ⟨k - 1, by omega, by go_num⟩, by rw [Nat.sub_self]; exact Lib.fresh_isBuilder _ _ _, (Below.refl _ _).alloc (Nat.le_refl _) _⟩
    case round =>
     obtain ⟨r, hrk, hcase, hbu, hbb⟩ := hrel
     have HBU := Lib.hid hbu
     clear hbu
     rcases hcase with ⟨rfl, rfl⟩ | ⟨j, rfl, rfl⟩
     ·
      go_wp2_with fail
      have hbu := HBU.out
      rw [show M / 10 ^ (9 * 0) = M from by simp] at hbu
      refine (Go.Proofs.Tryz.Builder_String_any W0.heap.size W0.heap.size _ _ hbu hbb.size).mono ?_
      rintro e w5 ⟨rfl, hb5⟩
      go_wp2_with fail
      refine (Go.Proofs.Tryz.strings_TrimLeft_one _ 48 (by decide) _).mono ?_
      rintro e w6 ⟨rfl, rfl⟩
      go_wp2_with fail
      go_ret
      exact ⟨ret_s (trim_pad h0 HM.out), hbw.trans ((hbb.trans hb5).mono hz0)⟩
     ·
      have hcj : W0.cell? ⟨gp, j, none⟩ = some (sv (chunk M j)) := by rw [hown.cellAt j (by omega), chunks_get _ _ _ (by omega)]
      have hcj' := (hbb.cell (p := ⟨gp, j, none⟩) hgp.2).trans hcj
      unfold sv at hcj'
      have hlen1 : (Lib.byteCells (N.pad (9 * (k - (j + 1))) (M / 10 ^ (9 * (j + 1))))).length ≤ 9 * k := by simp [Lib.byteCells, N.pad_length]; omega
      have hlen2 : (⟨(chunk M j).toArray⟩ : ByteArray).size = 9 := by show (chunk M j).toArray.size = 9; simp [chunk, N.pad_length]
      have HL2 := Lib.hid hlen2
      clear hlen2
      go_wp2_with fail
      refine (writeString_any W0.heap.size W0.heap.size _ ⟨(chunk M j).toArray⟩ _ HBU.out (by rw [HL2.out]; omega) hbb.size).mono ?_
      rintro e w5 ⟨rfl, hbu5, hb5⟩
      go_wp2_with fail
      go_roundw
      case rel =>
       refine ⟨j, by omega, ?_, .inr ?_, hbb.trans hb5⟩
       · by_cases hj0 : j = 0
         · subst hj0; exact .inl ⟨rfl, rfl⟩
         · exact .inr ⟨j - 1, by omega, by go_num⟩
       · have e : Lib.byteCells (N.pad (9 * (k - j)) (M / 10 ^ (9 * j))) = Lib.byteCells (N.pad (9 * (k - (j + 1))) (M / 10 ^ (9 * (j + 1)))) ++ Lib.strCells ⟨(chunk M j).toArray⟩ := by
          rw [show 9 * (k - j) = 9 * (k - (j + 1)) + 9 from by omega, N.pad_add, Nat.div_div_eq_div_mul, ← Nat.pow_add, show 9 * j + 9 = 9 * (j + 1) from by omega]
          simp [Lib.byteCells, Lib.strCells, chunk]
         rw [e]; exact hbu5
      case measure => simp [intOf]
   ·
    have hm0 : 0 < m := by
     rcases Nat.eq_zero_or_pos m with h | h
     · have h2 := HLen.out
       rw [h] at h2
       have h3 := List.eq_nil_of_length_eq_zero h2
       rw [N.ofN_eq_nil] at h3; omega
     · exact h
    have hvg := N.nv_ofN G
    have HVG := Lib.hid hvg
    clear hvg
    go_wp2_with fail
    refine (short_any _ B m d (N.ofN G) 1000000000 hsl (by omega) (by omega) (by omega)).mono ?_
    rintro e w1 ⟨g1, n1, c1, rfl, ho1, hb1⟩
    rw [HVG.out] at ho1 ⊢
    have hr := Nat.mod_lt G (show 0 < 1000000000 by omega)
    obtain ⟨r, hrd⟩ : ∃ r, r = G % 1000000000 := ⟨_, rfl⟩
    rw [← hrd] at hr ⊢
    have HR := Lib.hid hrd.symm
    clear hrd
    obtain ⟨wo, rfl⟩ : ∃ wo : World, wo = wr := ⟨_, rfl⟩
    go_wp2_with fail
    go_loopg [6, 7, 20] 9 (fun gj v6 v7 v20 wr => ∃ j : Nat, gj + j = 9 ∧ v20 = .int .i64 (j : Nat) ∧ v6 = .int .u32 (r / 10 ^ j : Nat) ∧ v7 = sv (N.pad j r) ∧ w1 = wr)
    case atStart => exact ⟨0, rfl, rfl, by simp, rfl, rfl⟩
    case round =>
     obtain ⟨j, hj, rfl, rfl, rfl, rfl⟩ := hrel
     by_cases hj9 : j < 9
     ·
      have hx : r / 10 ^ j < 1000000000 := Nat.lt_of_le_of_lt (Nat.div_le_self _ _) hr
      generalize hxe : r / 10 ^ j = x at *
      have HX := Lib.hid hxe
      clear hxe
      unfold sv
      go_wp2_with fail
      · exfalso
        have h : 9223372036854775807 < (Utf8.encode (48 + (x : Int) % 10)).size + (N.pad j r).length := by assumption
        rw [enc_digit, N.pad_length] at h
        have h2 : (⟨#[N.digc x]⟩ : ByteArray).size = 1 := rfl
        omega
      go_roundg (gk - 1)
      case measure => omega
      case rel =>
       refine ⟨j + 1, by omega, by go_num, ?_, add_digit j r x HX.out, rfl⟩
       have e : r / 10 ^ (j + 1) = x / 10 := by rw [← HX.out, Nat.div_div_eq_div_mul, Nat.pow_succ]
       rw [e]; go_num
     ·
      obtain rfl : j = 9 := by omega
      unfold sv
      have hown1 := (hown.kept (gb_of_below hb1 none) (by cases hv : u3.ownBlock <;> simp)).alloc (.cells #[Value.string ⟨(N.pad 9 r).toArray⟩] 9)
      have hz1 := hbw.size
      have hz2 := hb1.size
      have hkb : k ≤ 2 * n := text_bound hnv (by have := HGK.out; omega)
      go_wp2_with (at_builtin; refine wpList_append_src _ rfl (.tmp 32) (.tmp 34) 22 rfl w.heap.size 9 i0 (.string ByteArray.empty) 1 16 Tryz.underlying22 hi iz0 iz1 iz2 rfl (by decide) _ k _ rfl hown1 _ 1 1 [Value.string ⟨(N.pad 9 r).toArray⟩] rfl rfl ?d1 ?d2 ?d3 ?d4 ?d5 ?_)
      case d1 =>
       intro _
       refine ⟨_, rfl, fun j u hu => ?_⟩
       rw [Addr.add_lit, cell_of_row _ _ _ _ _ _ (heap_alloc_new w1 _)]
       simpa using hu
      case d2 => intro u hu; simp at hu; subst hu; rfl
      case d3 => unfold maxLen; omega
      case d4 => omega
      case d5 => simp; omega
      intro v' w2 hown2 hgr2 _
      have hown3 : w2.ownsRow w.heap.size 9 1 v' (k + 1) (chunks M (k + 1)) := by
       have e : sv (chunk M k) = Value.string ⟨(N.pad 9 r).toArray⟩ := by
        unfold chunk
        rw [← HGK.out, sv, ← HR.out, pad_mod]
       rw [chunks_succ, e]; exact hown2
      have hb2 : Below w.heap.size w w2 := ((hbw.trans (hb1.mono hz1)).alloc (by omega) _).grown hgr2 (by simp; omega) (fun k hk => (hown1.lt k hk).1)
      have hg1 := ho1.base_le
      have ho2 := ho1.below ((Below.refl _ _).alloc (Nat.le_refl _) (.cells #[Value.string ⟨(N.pad 9 r).toArray⟩] 9))
      go_wp2_with fail
      have hnext : M / 10 ^ (9 * (k + 1)) = G / 1000000000 := by
       rw [HGK.out, Nat.div_div_eq_div_mul, show 9 * (k + 1) = 9 * k + 9 from by omega, Nat.pow_add]
      go_roundg (M / 10 ^ (9 * (k + 1)))
      case measure => rw [hnext]; omega
      case rel =>
       rw [hnext]
       have hn1 : n1 ≤ n := by
        have h3 := ho1.len
        have h4 := N.ofN_length_mono (Nat.div_le_self G 1000000000)
        have h5 := HLen.out
        omega
       have ho3 : Own w2 wo.heap.size g1 n1 c1 (N.ofN (G / 1000000000)) := by
        refine ⟨ho2.own.kept hgr2 (.inr ?_), ho2.lim, ho2.full.block (hgr2.block g1 ho2.base_le.2 ?_)⟩
        all_goals
         intro e
         have := hown.lt g1 (by first | (rw [← e]; rfl) | rw [← e])
         omega
       exact ⟨k + 1, _, _, _, hnext.symm, rfl, ho3.sl, hown3, hb2, hn1, by omega⟩
set_option maxRecDepth 100000 in
set_option maxHeartbeats 400000 in
theorem text_zero (w : World) (A : Option Addr) (n c : Nat) (a : List Nat) (ha : Sl w A n c a) (hn : n ≤ 1099511627776) (h0 : N.nv a = 0) :
    Calls Tryz.prog 147 #[.slice A n c] w fun e w' => e = .returned (.string ⟨(N.txt (N.nv a)).toArray⟩) ∧ Below w.heap.size w w' := by
  have hlen : (N.ofN (N.nv a)).length = 0 := by rw [h0]; rfl
  have htx : N.txt (N.nv a) = [48] := by rw [h0]; rfl
  rw [htx]
  go_enter Tryz.func147, Tryz.ntmps147
  have HL := Lib.hid hlen
  clear hlen htx h0
  go_wp2_with fail
  refine (bare_any _ A n c a ha (by omega)).mono ?_
  rintro e w' ⟨rfl, rfl⟩
  rw [HL.out]
  go_wp2_with fail
  refine wp_loop_rounds 1 ?_
  rw [rounds_succ]
  go_wp2_with fail
  go_ret
  exact ⟨rfl, Below.refl _ _⟩
theorem text_any (w : World) (A : Option Addr) (n c : Nat) (a : List Nat) (ha : Sl w A n c a) (hn : n ≤ 1099511627776) :
    Calls Tryz.prog 147 #[.slice A n c] w fun e w' => e = .returned (.string ⟨(N.txt (N.nv a)).toArray⟩) ∧ Below w.heap.size w w' := by
  rcases Nat.eq_zero_or_pos (N.nv a) with h | h
  · exact text_zero w A n c a ha hn h
  · exact text_pos w A n c a ha hn h
end
section
open Go.RowKit
def icmp (x y : Int) : Int := if x < y then -1 else if x = y then 0 else 1
theorem icmp_lt {x y : Int} (h : x < y) : icmp x y = -1 := by simp [icmp, h]
theorem icmp_eq (x : Int) : icmp x x = 0 := by simp [icmp]
theorem icmp_gt {x y : Int} (h : y < x) : icmp x y = 1 := by
 have h1 : ¬ x < y := by omega
 have h2 : ¬ x = y := by omega
 simp [icmp, h1, h2]
theorem icmp_cases (x y : Int) : (x < y ∧ icmp x y = -1) ∨ (x = y ∧ icmp x y = 0) ∨ (y < x ∧ icmp x y = 1) := by
 rcases Int.lt_trichotomy x y with h | h | h
 · exact .inl ⟨h, icmp_lt h⟩
 · subst h; exact .inr (.inl ⟨rfl, icmp_eq x⟩)
 · exact .inr (.inr ⟨h, icmp_gt h⟩)
theorem icmp_pos (x y : Nat) : icmp (sgn false x) (sgn false y) = N.cmpN x y := by
 rw [sgn_false, sgn_false]
 rcases N.cmpN_cases x y with ⟨h, e⟩ | ⟨h, e⟩ | ⟨h, e⟩
 · rw [e]; exact icmp_lt (by omega)
 · rw [e]; subst h; exact icmp_eq _
 · rw [e]; exact icmp_gt (by omega)
theorem icmp_neg (x y : Nat) : icmp (sgn true x) (sgn true y) = N.cmpN y x := by
 rw [sgn_true, sgn_true]
 rcases N.cmpN_cases y x with ⟨h, e⟩ | ⟨h, e⟩ | ⟨h, e⟩
 · rw [e]; exact icmp_lt (by omega)
 · rw [e]; subst h; exact icmp_eq _
 · rw [e]; exact icmp_gt (by omega)
def isgn (z : Int) : Int := icmp z 0
theorem isgn_sgn (s : Bool) (x : Nat) : isgn (sgn s x) = if x = 0 then 0 else if s then -1 else 1 := by
 unfold isgn
 by_cases h : x = 0
 · subst h; rw [sgn_zero, if_pos rfl]; exact icmp_eq 0
 · rw [if_neg h]
   cases s
   · rw [sgn_false]; exact icmp_gt (by omega)
   · rw [sgn_true]; exact icmp_lt (by omega)
theorem isgn_cases (z : Int) : (z < 0 ∧ isgn z = -1) ∨ (z = 0 ∧ isgn z = 0) ∨ (0 < z ∧ isgn z = 1) := icmp_cases z 0
theorem N.nv_zero_of {l : List Nat} (h : ∀ j, j < l.length → N.dg l j = 0) : N.nv l = 0 := by
 rw [N.nv_of_zero (n := 0) (l := l) (fun j _ => by
  rcases Nat.lt_or_ge j l.length with h1 | h1
  · exact h j h1
  · exact N.dg_ge l j h1)]
 rfl
theorem sgn_lt {s : Bool} {x : Nat} (h : sgn s x < 0) : s = true := by
 cases s
 · rw [sgn_false] at h; omega
 · rfl
theorem sgn_gt {s : Bool} {x : Nat} (h : 0 < sgn s x) : s = false := by
 cases s
 · rfl
 · rw [sgn_true] at h; omega
set_option maxRecDepth 100000 in
set_option maxHeartbeats 800000 in
theorem sign_i {w : World} {v : Value} {K : Nat} {z : Int} (h : IV w v K z) (hK : K ≤ 9223372036854775807) :
    Calls Tryz.prog 93 #[v] w fun e w' => e = .returned (.int .i64 (isgn z)) ∧ Below w.heap.size w w' := by
  obtain ⟨s, x, ⟨sl, rfl, A, n, c, l, rfl, hp, hs, rfl, hn⟩, rfl⟩ := h
  obtain ⟨G, hG⟩ : ∃ G, G = isgn (sgn s (N.nv l)) := ⟨_, rfl⟩
  rw [← hG]
  have HG := Lib.hid hG
  clear hG
  obtain ⟨W, hW, hp0, hbW⟩ : ∃ W : World, W = w.alloc (.cells #[.bool s, .slice A n c] 25) ∧ Pair W w.heap.size 25 (.bool s) (.slice A n c) ∧ Below w.heap.size w W := ⟨_, rfl, Pair.new _ _ _ _, below_alloc1 _ _⟩
  obtain ⟨_, _, c0, c1⟩ := hp0.facts
  have hsW := hs.below hbW
  have hl := hs.len
  have HL := Lib.hid hl
  have HW := Lib.hid hW
  clear hW hs hl hp0
  go_enter Tryz.func93, Tryz.ntmps93
  go_wp2_with fail
  rw [← HW.out]
  go_loopg [8] n (fun gk v8 wr => ∃ k : Nat, gk + k = n ∧ v8 = .int .i64 (k : Nat) ∧ (∀ j, j < k → N.dg l j = 0) ∧ W = wr)
  case atStart => exact ⟨0, rfl, rfl, fun j hj => by omega, rfl⟩
  case round =>
   obtain ⟨k, hk, rfl, hz, rfl⟩ := hrel
   have HZ := Lib.hid hz
   clear hz
   by_cases hkn : k < n
   ·
    obtain ⟨b, o, rfl, hc⟩ := hsW.cells (by omega)
    have hck := hc k hkn
    have HC := Lib.hid hc
    clear hc
    by_cases hd : N.dg l k = 0
    ·
     have ht : ((N.dg l k : Int) == 0) = true := by simpa using hd
     have HD := Lib.hid hd
     clear hd
     go_wp2_with fail
     go_roundg (gk - 1)
     case measure => omega
     case rel =>
      refine ⟨k + 1, by omega, by go_num, fun j hj => ?_, rfl⟩
      rcases Nat.lt_or_ge j k with h3 | h3
      · exact HZ.out j h3
      · obtain rfl : j = k := by omega
        exact HD.out
    ·
     have ht : ((N.dg l k : Int) == 0) = false := by simpa using hd
     have hx := N.nv_ne_of hd
     have HX := Lib.hid hx
     clear hx hd
     cases s
     all_goals
      go_wp2_with fail
      go_ret
      exact ⟨by rw [HG.out, isgn_sgn, if_neg HX.out]; rfl, hbW⟩
   · obtain rfl : k = n := by omega
     have hx : N.nv l = 0 := N.nv_zero_of (by rw [HL.out]; exact HZ.out)
     have HX := Lib.hid hx
     clear hx
     go_wp2_with fail
     go_ret
     exact ⟨by rw [HG.out, isgn_sgn, if_pos HX.out]; rfl, hbW⟩
set_option maxHeartbeats 400000 in
theorem cmp_any (w : World) (A : Option Addr) (n c : Nat) (a : List Nat) (B : Option Addr) (m d : Nat) (b : List Nat) (ha : Sl w A n c a) (hb : Sl w B m d b) (hn : n ≤ 9223372036854775807) (hm : m ≤ 9223372036854775807) :
    Calls Tryz.prog 94 #[.slice A n c, .slice B m d] w fun e w' => e = .returned (.int .i64 (N.cmpN (N.nv a) (N.nv b))) ∧ Below w.heap.size w w' := by
  have ha1 := ha.bare
  have hb1 := hb.bare
  have hla := N.nv_len_le ha.lim
  have hlb := N.nv_len_le hb.lim
  rw [ha.len] at hla
  rw [hb.len] at hlb
  have hA := N.bare_ofN (N.nv a)
  have hB := N.bare_ofN (N.nv b)
  have hva := N.nv_ofN (N.nv a)
  have hvb := N.nv_ofN (N.nv b)
  go_enter Tryz.func94, Tryz.ntmps94
  have HVA := Lib.hid hva
  have HVB := Lib.hid hvb
  clear hva hvb
  go_wp2_with fail
  refine (bare_any _ A n c a ha hn).mono ?_
  rintro e w' ⟨rfl, rfl⟩
  go_wp2_with fail
  refine (bare_any _ B m d b hb hm).mono ?_
  rintro e w' ⟨rfl, rfl⟩
  clear ha hb
  generalize N.ofN (N.nv a) = a' at *
  generalize N.ofN (N.nv b) = b' at *
  rcases Nat.lt_trichotomy a'.length b'.length with hl | hl | hl
  · have h1 : ((a'.length : Int) != (b'.length : Int)) = true := by rw [bne_iff_ne]; omega
    have h2 : decide (a'.length < b'.length) = true := by simpa using hl
    go_wp2_with fail
    go_ret
    exact ⟨ret_i (by rw [← HVA.out, ← HVB.out, N.cmpN_lt (N.bare_len_lt ha1.lim hB hl)]), Below.refl _ _⟩
  ·
   generalize hp : a'.length = p at *
   subst hl
   have HP := Lib.hid hp
   clear hp
   go_wp2_with fail
   go_loopw [5] (fun v wr => Below w.heap.size w wr ∧ ((v = .int .i64 (-1) ∧ ∀ i, i < b'.length → N.dg a' i = N.dg b' i) ∨ ∃ j : Nat, j < b'.length ∧ v = .int .i64 j ∧ ∀ i, j < i → i < b'.length → N.dg a' i = N.dg b' i)) (fun v _ => (intOf v + 1).toNat)
   case atStart =>
    refine ⟨Below.refl _ _, ?_⟩
    by_cases h0 : b'.length = 0
    · exact .inl ⟨by rw [h0]; rfl, fun i hi => by omega⟩
    · exact .inr ⟨b'.length - 1, by omega, by go_num, fun i h1 h2 => by omega⟩
   case round =>
    obtain ⟨hbl, hrel⟩ := hrel
    rcases hrel with ⟨rfl, he⟩ | ⟨j, hj, rfl, he⟩
    · have HE := Lib.hid he
      clear he
      go_wp2_with fail
      go_ret
      exact ⟨ret_i (by rw [← HVA.out, ← HVB.out, N.ext_dg (HP.out.trans rfl) (fun k hk => HE.out k (by rw [HP.out] at hk; exact hk)), N.cmpN_eq]), hbl⟩
    ·
     have HE := Lib.hid he
     clear he
     obtain ⟨ba, oa, rfl, hca⟩ := (ha1.below hbl).cells (by omega)
     obtain ⟨bb, ob, rfl, hcb⟩ := (hb1.below hbl).cells (by omega)
     have h1 := hca j (by omega)
     have h2 := hcb j hj
     clear hca hcb
     have h0 : (0 : Int) ≤ j := by omega
     rcases Nat.lt_trichotomy (N.dg a' j) (N.dg b' j) with hd | hd | hd
     · have hlt := N.dg_hi_lt (a := a') (b := b') HP.out ha1.lim (i := j) (by rw [HP.out]; exact hj) (fun k h3 h4 => HE.out k h3 (by rw [HP.out] at h4; exact h4)) hd
       have t1 : decide (N.dg a' j < N.dg b' j) = true := by simpa using hd
       go_wp2_with fail
       go_quiet (fail)
       go_wp2_with fail
       go_ret
       exact ⟨ret_i (by rw [← HVA.out, ← HVB.out, N.cmpN_lt hlt]), below_drewN hbl _⟩
     ·
      have t1 : decide (N.dg a' j < N.dg b' j) = false := by simp; omega
      have t2 : decide (N.dg b' j < N.dg a' j) = false := by simp; omega
      have HD := Lib.hid hd
      clear hd
      go_wp2_with fail
      go_quiet (fail)
      go_wp2_with fail
      go_quiet (fail)
      go_wp2_with fail
      go_roundw
      case rel =>
       refine ⟨below_drewN hbl _, ?_⟩
       have he : ∀ i, j ≤ i → i < b'.length → N.dg a' i = N.dg b' i := fun i h3 h4 => by
        rcases Nat.lt_or_ge j i with h5 | h5
        · exact HE.out i h5 h4
        · obtain rfl : i = j := by omega
          exact HD.out
       by_cases hj0 : j = 0
       · subst hj0
         exact .inl ⟨rfl, fun i hi => he i (Nat.zero_le _) hi⟩
       · exact .inr ⟨j - 1, by omega, by go_num, fun i h3 h4 => he i (by omega) h4⟩
      case measure => simp [intOf]
     ·
      have hlt := N.dg_hi_lt (a := b') (b := a') HP.out.symm hb1.lim (i := j) hj (fun k h3 h4 => (HE.out k h3 h4).symm) hd
      have t1 : decide (N.dg a' j < N.dg b' j) = false := by simp; omega
      have t2 : decide (N.dg b' j < N.dg a' j) = true := by simpa using hd
      go_wp2_with fail
      go_quiet (fail)
      go_wp2_with fail
      go_quiet (fail)
      go_wp2_with fail
      go_ret
      exact ⟨ret_i (by rw [← HVA.out, ← HVB.out, N.cmpN_gt hlt]), below_drewN (below_drewN hbl _) _⟩
  · have h1 : ((a'.length : Int) != (b'.length : Int)) = true := by rw [bne_iff_ne]; omega
    have h2 : decide (a'.length < b'.length) = false := by simp; omega
    go_wp2_with fail
    go_ret
    exact ⟨ret_i (by rw [← HVA.out, ← HVB.out, N.cmpN_gt (N.bare_len_lt hb1.lim hA hl)]), Below.refl _ _⟩
theorem cmp_v {w : World} {a b : Value} {K L x y : Nat} (ha : Val w a K x) (hb : Val w b L y) (hK : K ≤ 9223372036854775807) (hL : L ≤ 9223372036854775807) :
    Calls Tryz.prog 94 #[a, b] w fun e w' => e = .returned (.int .i64 (N.cmpN x y)) ∧ Below w.heap.size w w' := by
  obtain ⟨A, n, c, l, rfl, hs, rfl, hn⟩ := ha
  obtain ⟨B, m, d, k, rfl, ht, rfl, hm⟩ := hb
  exact cmp_any w A n c l B m d k hs ht (by omega) (by omega)
theorem text_v {w : World} {a : Value} {K x : Nat} (ha : Val w a K x) (hK : K ≤ 1099511627776) :
    Calls Tryz.prog 147 #[a] w fun e w' => e = .returned (.string ⟨(N.txt x).toArray⟩) ∧ Below w.heap.size w w' := by
  obtain ⟨A, n, c, l, rfl, hs, rfl, hn⟩ := ha
  exact text_any w A n c l hs (by omega)
theorem txt_len_bits {x K : Nat} (h : x < 4294967296 ^ K) : (N.txt x).length ≤ 32 * K + 1 := by
 have h1 : x < 10 ^ (32 * K + 1) := by
  rw [show 4294967296 = 2 ^ 32 from rfl, ← Nat.pow_mul] at h
  have h2 : 2 ^ (32 * K) ≤ 10 ^ (32 * K) := Nat.pow_le_pow_left (by omega) _
  have h3 : 10 ^ (32 * K) ≤ 10 ^ (32 * K + 1) := Nat.pow_le_pow_right (by omega) (by omega)
  omega
 rcases Nat.eq_zero_or_pos x with h0 | h0
 · subst h0; exact Nat.le_add_left _ _
 · obtain ⟨z, hz⟩ := N.pad_txt _ x h0 h1
   have h2 := congrArg List.length hz
   rw [N.pad_length, List.length_append] at h2
   omega
def ztxt (z : Int) : List UInt8 := if z < 0 then 45 :: N.txt z.natAbs else N.txt z.natAbs
set_option maxRecDepth 100000 in
set_option maxHeartbeats 1600000 in
theorem text_i {w : World} {v : Value} {K : Nat} {z : Int} (h : IV w v K z) (hK : K ≤ 1099511627776) :
    Calls Tryz.prog 114 #[v] w fun e w' => e = .returned (.string ⟨(ztxt z).toArray⟩) ∧ Below w.heap.size w w' := by
  obtain ⟨G, hG⟩ : ∃ G, G = ztxt z := ⟨_, rfl⟩
  rw [← hG]
  unfold ztxt at hG
  have HG := Lib.hid hG
  clear hG
  obtain ⟨s, x, ⟨sl, rfl, hm⟩, hz⟩ := h
  have hx : x = z.natAbs := by rw [← hz, natAbs_sgn]
  have HX := Lib.hid hx
  have HZ := Lib.hid hz
  clear hz hx
  obtain ⟨W, hW, hp0, hbw⟩ : ∃ W : World, W = w.alloc (.cells #[.bool s, sl] 25) ∧ Pair W w.heap.size 25 (.bool s) sl ∧ Below w.heap.size w W := ⟨_, rfl, Pair.new _ _ _ _, below_alloc1 _ _⟩
  have HW := Lib.hid hW
  clear hW
  go_enter Tryz.func114, Tryz.ntmps114
  go_wp2_with fail
  rw [← HW.out]
  refine (sign_i (z := z) (K := K) ⟨s, x, ⟨_, rfl, hm.below hbw⟩, HZ.out⟩ (by omega)).mono ?_
  rintro e w1 ⟨rfl, hb1⟩
  replace hp0 := hp0.below hb1
  replace hbw := below_on hbw hb1
  obtain ⟨_, _, c00, c01⟩ := hp0.facts
  clear hb1 hp0 HW
  obtain ⟨p, hp⟩ : ∃ p, isgn z = p := ⟨_, rfl⟩
  rw [hp]
  rcases isgn_cases z with ⟨h1, e1⟩ | ⟨h1, e1⟩ | ⟨h1, e1⟩
  ·
   rw [e1] at hp
   subst hp
   have H1 := Lib.hid h1
   clear h1 e1
   go_wp2_with fail
   have hl := txt_len_bits hm.val.lt
   refine (text_v (hm.below hbw).val (by omega)).mono ?_
   rintro e w2 ⟨rfl, hb2⟩
   replace hbw := below_on hbw hb2
   obtain ⟨D, hD⟩ : ∃ D : ByteArray, D = ⟨(N.txt x).toArray⟩ := ⟨_, rfl⟩
   have hDs : D.size ≤ 32 * K + 1 := by rw [hD]; simpa [ByteArray.size] using hl
   rw [← hD]
   have HD := Lib.hid hD
   clear hD hl
   have hns : ¬ (9223372036854775807 < 1 + D.size) := by omega
   have hns2 : ¬ (9223372036854775807 < ByteArray.size ⟨#[45]⟩ + D.size) := hns
   go_wp2_with fail
   go_ret
   refine ⟨?_, hbw⟩
   rw [HG.out, if_pos H1.out, ← HX.out]
   refine congrArg Ending.returned (congrArg Value.string ?_)
   rw [HD.out]
   apply ByteArray.ext
   simp
  all_goals
   rw [e1] at hp
   subst hp
   have H1 := Lib.hid h1
   clear h1 e1
   go_wp2_with fail
   refine (text_v (hm.below hbw).val (by omega)).mono ?_
   rintro e w2 ⟨rfl, hb2⟩
   replace hbw := below_on hbw hb2
   go_wp2_with fail
   go_ret
   exact ⟨by rw [HG.out, if_neg (by have := H1.out; omega), ← HX.out]; rfl, hbw⟩
set_option maxRecDepth 100000 in
set_option maxHeartbeats 4000000 in
theorem cmp_i {w : World} {a b : Value} {K L : Nat} {x y : Int} (ha : IV w a K x) (hb : IV w b L y) (hK : K + L < 17592186044416) :
    Calls Tryz.prog 52 #[a, b] w fun e w' => e = .returned (.int .i64 (icmp x y)) ∧ Below w.heap.size w w' := by
  obtain ⟨s, m, ⟨sa, rfl, ha⟩, rfl⟩ := ha
  obtain ⟨t, n, ⟨sb, rfl, hb⟩, rfl⟩ := hb
  obtain ⟨G, hG⟩ : ∃ G, G = icmp (sgn s m) (sgn t n) := ⟨_, rfl⟩
  rw [← hG]
  have HG := Lib.hid hG
  clear hG
  obtain ⟨W, hW, hp0, hp1, hsz, hbW⟩ := enter2r w 25 (.bool s) sa (.bool t) sb
  have hS0 : ∀ w', Below (w.heap.size + 2) W w' → (fun w' => ((w'.cell? ⟨w.heap.size, 0, none⟩ = some (.bool s) ∧ w'.cell? ⟨w.heap.size, 1, none⟩ = some sa) ∧ (w'.cell? ⟨w.heap.size + 1, 0, none⟩ = some (.bool t) ∧ w'.cell? ⟨w.heap.size + 1, 1, none⟩ = some sb)) ∧ Below (w.heap.size + 2) W w') w' := fun w' h => ⟨⟨⟨(hp0.keep h (by omega)).facts.2.2.1, (hp0.keep h (by omega)).facts.2.2.2⟩, ⟨(hp1.keep h (by omega)).facts.2.2.1, (hp1.keep h (by omega)).facts.2.2.2⟩⟩, h⟩
  have hR0 : w.heap.size + 2 ≤ W.heap.size := by omega
  have hB0 : ∀ w', Below (w.heap.size + 2) W w' → Below w.heap.size w w' := fun w' h => hbW.trans (h.mono (by omega))
  obtain ⟨_, _, c00, c01⟩ := hp0.facts
  obtain ⟨_, _, c10, c11⟩ := hp1.facts
  have HS0 := Lib.hid hS0
  have HR := Lib.hid hR0
  have HB := Lib.hid hB0
  have HW := Lib.hid hW
  clear hS0 hR0 hB0 hbW hsz hW
  go_enter Tryz.func52, Tryz.ntmps52
  go_wp2_with fail
  rw [← HW.out]
  go_region_held3 (fun w' => ((w'.cell? ⟨w.heap.size, 0, none⟩ = some (.bool s) ∧ w'.cell? ⟨w.heap.size, 1, none⟩ = some sa) ∧ (w'.cell? ⟨w.heap.size + 1, 0, none⟩ = some (.bool t) ∧ w'.cell? ⟨w.heap.size + 1, 1, none⟩ = some sb)) ∧ Below (w.heap.size + 2) W w')
   (first | assumption | exact HS0.out _ (by assumption) | exact HS0.out _ (Below.drew (by assumption)) | exact HS0.out _ (Below.refl _ _).drew | exact HS0.out _ (below_pair (by assumption) (Nat.le_refl _) _ _) | exact HS0.out _ (below_pair (below_pair (by assumption) (Nat.le_refl _) _ _) (Nat.le_succ _) _ _))
   (first
     | (go_at_call_of 93 (Value.agg #[.bool s, sa]); (try clear hS); refine (sign_i ⟨s, m, ⟨sa, rfl, (ha.below (HB.out _ (s_below (by assumption))))⟩, rfl⟩ (by omega)).mono ?_; rintro e w1 ⟨rfl, hb1⟩; have hS := on_go HR.out (s_below (by assumption)) hb1; clear hb1)
     | (go_at_call 93; (try clear hS); refine (sign_i ⟨t, n, ⟨sb, rfl, (hb.below (HB.out _ (s_below (by assumption))))⟩, rfl⟩ (by omega)).mono ?_; rintro e w2 ⟨rfl, hb2⟩; have hS := on_go HR.out (s_below (by assumption)) hb2; clear hb2))
  obtain ⟨p, hp⟩ : ∃ p, isgn (sgn s m) = p := ⟨_, rfl⟩
  obtain ⟨q, hq⟩ : ∃ q, isgn (sgn t n) = q := ⟨_, rfl⟩
  rw [hp, hq]
  have hbw := HB.out _ hS
  obtain ⟨⟨⟨c00, c01⟩, ⟨c10, c11⟩⟩, _⟩ := HS0.out _ hS
  rcases isgn_cases (sgn s m) with ⟨h1, e1⟩ | ⟨h1, e1⟩ | ⟨h1, e1⟩
  ·
   rw [e1] at hp
   subst hp
   have H1 := Lib.hid h1
   clear h1 e1
   rcases isgn_cases (sgn t n) with ⟨h2, e2⟩ | ⟨h2, e2⟩ | ⟨h2, e2⟩
   ·
    rw [e2] at hq
    subst hq
    have H2 := Lib.hid h2
    clear h2 e2
    go_wp2_with fail
    refine (cmp_v (hb.below hbw).val (ha.below hbw).val (by omega) (by omega)).mono ?_
    rintro e w3 ⟨rfl, hb3⟩
    replace hbw := below_on hbw hb3
    go_wp2_with fail
    go_ret
    exact ⟨by have h1 := sgn_lt H1.out; have h2 := sgn_lt H2.out; subst h1; subst h2; rw [HG.out, icmp_neg]; rfl, hbw⟩
   · rw [e2] at hq
     subst hq
     have H2 := Lib.hid h2
     clear h2 e2
     go_wp2_with fail
     go_ret
     exact ⟨by rw [HG.out, icmp_lt (by have := H1.out; have := H2.out; omega)]; rfl, hbw⟩
   · rw [e2] at hq
     subst hq
     have H2 := Lib.hid h2
     clear h2 e2
     go_wp2_with fail
     go_ret
     exact ⟨by rw [HG.out, icmp_lt (by have := H1.out; have := H2.out; omega)]; rfl, hbw⟩
  ·
   rw [e1] at hp
   subst hp
   have H1 := Lib.hid h1
   clear h1 e1
   rcases isgn_cases (sgn t n) with ⟨h2, e2⟩ | ⟨h2, e2⟩ | ⟨h2, e2⟩
   · rw [e2] at hq
     subst hq
     have H2 := Lib.hid h2
     clear h2 e2
     go_wp2_with fail
     go_ret
     exact ⟨by rw [HG.out, icmp_gt (by have := H1.out; have := H2.out; omega)]; rfl, hbw⟩
   ·
    rw [e2] at hq
    subst hq
    have H2 := Lib.hid h2
    clear h2 e2
    go_wp2_with fail
    refine (cmp_v (ha.below hbw).val (hb.below hbw).val (by omega) (by omega)).mono ?_
    rintro e w3 ⟨rfl, hb3⟩
    replace hbw := below_on hbw hb3
    go_wp2_with fail
    go_ret
    exact ⟨by have h1 := sgn_eq_zero.1 H1.out; have h2 := sgn_eq_zero.1 H2.out; subst h1; subst h2; rw [HG.out, sgn_zero, sgn_zero, icmp_eq]; rfl, hbw⟩
   · rw [e2] at hq
     subst hq
     have H2 := Lib.hid h2
     clear h2 e2
     go_wp2_with fail
     go_ret
     exact ⟨by rw [HG.out, icmp_lt (by have := H1.out; have := H2.out; omega)]; rfl, hbw⟩
  ·
   rw [e1] at hp
   subst hp
   have H1 := Lib.hid h1
   clear h1 e1
   rcases isgn_cases (sgn t n) with ⟨h2, e2⟩ | ⟨h2, e2⟩ | ⟨h2, e2⟩
   · rw [e2] at hq
     subst hq
     have H2 := Lib.hid h2
     clear h2 e2
     go_wp2_with fail
     go_ret
     exact ⟨by rw [HG.out, icmp_gt (by have := H1.out; have := H2.out; omega)]; rfl, hbw⟩
   · rw [e2] at hq
     subst hq
     have H2 := Lib.hid h2
     clear h2 e2
     go_wp2_with fail
     go_ret
     exact ⟨by rw [HG.out, icmp_gt (by have := H1.out; have := H2.out; omega)]; rfl, hbw⟩
   ·
    rw [e2] at hq
    subst hq
    have H2 := Lib.hid h2
    clear h2 e2
    go_wp2_with fail
    refine (cmp_v (ha.below hbw).val (hb.below hbw).val (by omega) (by omega)).mono ?_
    rintro e w3 ⟨rfl, hb3⟩
    replace hbw := below_on hbw hb3
    go_wp2_with fail
    go_ret
    exact ⟨by have h1 := sgn_gt H1.out; have h2 := sgn_gt H2.out; subst h1; subst h2; rw [HG.out, icmp_pos]; rfl, hbw⟩
end
end Go.Proofs.YthiadenmljbdaaaGreatDoor
