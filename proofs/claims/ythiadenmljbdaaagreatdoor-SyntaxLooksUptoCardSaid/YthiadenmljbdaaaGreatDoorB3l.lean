/-
  l: the parts LParse RefMath LRParse LexA.
-/
import Derived.Test.YthiadenmljbdaaaGreatDoorB2l
import Derived.Test.YthiadenmljbdaaaGreatDoorB1l
import Derived.Shelf.Strings.SlTrimAscii
import Derived.Laws.CopyOwn
import Derived.WalkKit
namespace Go.Proofs.YthiadenmljbdaaaGreatDoor
section
open Go.RowKit
theorem info_u32 : (Tryz.prog.info? 69).map (fun i => (i.zero, i.size, i.bytes)) = some (some (.int .u32 0), 1, 4) := by kernel_rfl
theorem dec_ascii : ∀ (j : Nat) b, (⟨#[48, 49, 50, 51, 52, 53, 54, 55, 56, 57]⟩ : ByteArray).data.toList[j]? = some b → b.toNat < 128 := fun j b h => by
 have h1 : b ∈ ([48, 49, 50, 51, 52, 53, 54, 55, 56, 57] : List UInt8) := List.mem_of_getElem? h
 have h2 : ∀ b ∈ ([48, 49, 50, 51, 52, 53, 54, 55, 56, 57] : List UInt8), b.toNat < 128 := by decide
 exact h2 b h1
theorem trim_dec (s : ByteArray) (w : World) (hs : s.size ≤ 9223372036854775807) :
    Calls Tryz.prog 171 #[.string s, .string ⟨#[48, 49, 50, 51, 52, 53, 54, 55, 56, 57]⟩] w fun e w' => e = .returned (.string ⟨(Lib.trimS s.data.toList [48, 49, 50, 51, 52, 53, 54, 55, 56, 57]).toArray⟩) ∧ Below w.heap.size w w' :=
  Any.strings_Trim_laid Tryz.lays160 (by kernel_rfl) s ⟨#[48, 49, 50, 51, 52, 53, 54, 55, 56, 57]⟩ w hs (by show 10 < _; omega) dec_ascii
theorem wpList_bytes {P : Program} (w : World) {ops : Array Oper} {rest : List Oper} {o : Oper} {a : Act} {Q : Exit → Act → World → Prop}
    (hg : o.guard = none) (x : Operand) (src dst e : TypeId) (hop : o.op = Op.convert src dst x) (s : ByteArray) (hx : a.eval x = .string s) (hs : P.underlying src = some .string) (hd : P.underlying dst = some (.slice e)) (he : P.underlying e = some (.int .u8))
    (hK : ∀ w' c, s.size ≤ c → (∀ j, j < s.size → w'.cell? ⟨w.heap.size, j, none⟩ = some (.int .u8 ((s.data.toList.getD j 0).toNat : Nat))) → Below w.heap.size w w' → wpList P ops Q rest (a.put o.dst (.slice (some ⟨w.heap.size, 0, none⟩) s.size c)) w') :
    wpList P ops Q (o :: rest) a w := by
  refine wpList_plain hg fun K hK' => ?_
  have hrun := run_bytes_of_string (P := P) w src dst e s hs hd he
  unfold Oper.wp
  simp [execOp, hop, hx, hrun, Result.andThen]
  refine hK' _ _ (hK _ _ (grownCap_ge w s.size 0 e) (fun j hj => ?_) ((Below.refl _ _).drew.alloc (Nat.le_refl _) _))
  have h1 : (w.drew.alloc (.cells (bytesRow s (grownCap w s.size 0 e)) e ((bytesRow s (grownCap w s.size 0 e)).size, (bytesRow s (grownCap w s.size 0 e)).size + 1))).heap[w.heap.size]? = some (.cells (bytesRow s (grownCap w s.size 0 e)) e ((bytesRow s (grownCap w s.size 0 e)).size, (bytesRow s (grownCap w s.size 0 e)).size + 1)) := by
   show (w.heap.push _)[w.heap.size]? = _
   simp
  rw [cell_of_row _ _ j _ _ _ h1]
  have hj' : j < s.data.size := hj
  unfold bytesRow
  rw [Array.getElem?_append_left (by simpa using hj'), Array.getElem?_map, Array.getElem?_eq_getElem hj']
  simp
  rw [Array.getElem?_eq_getElem hj']
  rfl
theorem ext_list {X : ByteArray} {Q : Nat} : (X.extract 0 Q).data.toList = X.data.toList.take Q := by
 rw [← ByteArray.toList_eq, Lib.extract_toList]; simp
theorem ext_size {X : ByteArray} {Q : Nat} (h : Q ≤ X.size) : (X.extract 0 Q).size = Q := by
 have : (X.extract 0 Q).size = (X.extract 0 Q).data.toList.length := Array.length_toList.symm
 rw [this, ext_list, List.length_take]
 exact Nat.min_eq_left h
theorem ext_drop {X : ByteArray} {Q : Nat} : (X.extract Q X.size).data.toList = X.data.toList.drop Q := by
 rw [← ByteArray.toList_eq, Lib.extract_toList, List.take_of_length_le (by rw [List.length_drop, Array.length_toList]; exact Nat.le_refl _)]
theorem ext_drop_size {X : ByteArray} {Q : Nat} : (X.extract Q X.size).size = X.size - Q := by
 have : (X.extract Q X.size).size = (X.extract Q X.size).data.toList.length := Array.length_toList.symm
 rw [this, ext_drop, List.length_drop, Array.length_toList]
 rfl
theorem trimS_all {l cs : List UInt8} (h : ∀ c ∈ l, c ∈ cs) : Lib.trimS l cs = [] := by
 have h1 : Lib.trimRightS l cs = [] := by
  unfold Lib.trimRightS
  have h2 : ∀ (k : List UInt8), (∀ c ∈ k, c ∈ cs) → k.dropWhile (cs.contains ·) = [] := by
   intro k
   induction k with
   | nil => intro _; rfl
   | cons c k ih =>
    intro hk
    have : cs.contains c = true := by simpa using hk c (by simp)
    rw [List.dropWhile_cons, this]
    exact ih fun x hx => hk x (by simp [hx])
  rw [h2 _ (fun c hc => h c (by simpa using hc))]
  rfl
 unfold Lib.trimS
 rw [h1]; rfl
theorem isDig_mem {c : UInt8} (h : N.isDig c) : c ∈ [48, 49, 50, 51, 52, 53, 54, 55, 56, 57] := by
 have h1 : ∀ n : Fin 58, 48 ≤ n.val → UInt8.ofNat n.val ∈ ([48, 49, 50, 51, 52, 53, 54, 55, 56, 57] : List UInt8) := by decide
 have h2 := h1 ⟨c.toNat, by have := h.2; omega⟩ h.1
 simpa using h2
set_option maxRecDepth 100000 in
set_option maxHeartbeats 2000000 in
theorem parse_ok (w : World) (S : ByteArray) (hs : S.size ≤ 1099511627776) (hok : N.okTxt S.data.toList) :
    Calls Tryz.prog 159 #[.string S] w fun e w' => ∃ g n' c', e = .returned (.tuple #[.slice (some ⟨g, 0, none⟩) n' c', .int .i64 0]) ∧ Own w' w.heap.size g n' c' (N.ofN (N.val S.data.toList)) ∧ Below w.heap.size w w' := by
  obtain ⟨i0, hi, iz0, iz1, iz2⟩ := info_parts info_u32
  have hS0 : 0 < S.size := by
   rcases Nat.eq_zero_or_pos S.size with h | h
   · exact absurd (List.eq_nil_of_length_eq_zero (by simpa using h)) hok.1
   · exact h
  have htr : Lib.trimS S.data.toList [48, 49, 50, 51, 52, 53, 54, 55, 56, 57] = [] := trimS_all fun c hc => isDig_mem (hok.2.1 c hc)
  have HTR := Lib.hid htr
  clear htr
  go_enter Tryz.func159, Tryz.ntmps159
  have hne : S.toList.isEmpty = false := by
   rw [ByteArray.toList_eq]
   cases h : S.data.toList with
   | nil => exact absurd h hok.1
   | cons _ _ => rfl
  have hcond : (S.size ≤ 1 ∧ ∀ h : 0 < S.size, True) ∨ (1 < S.size ∧ (((S[0]'hS0).toNat : Int) == 48) = false) := by
   rcases Nat.lt_or_ge 1 S.size with h | h
   ·
    refine .inr ⟨h, ?_⟩
    have h1 : S.data.toList.head? ≠ some 48 := fun e => by
     have h2 : S.data.toList.length = 1 := hok.2.2 e
     have h3 : S.data.toList.length = S.size := rfl
     omega
    have h2 : S.data.toList.head? = some (S[0]'hS0) := by
     rw [List.head?_eq_getElem?, Array.getElem?_toList]
     exact Array.getElem?_eq_getElem hS0
    rw [h2] at h1
    have h3 : (S[0]'hS0).toNat ≠ 48 := fun e => h1 (congrArg some (UInt8.toNat_inj.1 e))
    simp; omega
   · exact .inl ⟨h, fun _ => trivial⟩
  rcases hcond with ⟨hsz, _⟩ | ⟨hsz, hd0⟩
  all_goals
   have hsz' : (0 : Int) < S.size := by omega
   go_wp2_with fail
   refine (trim_dec S _ (by omega)).mono ?_
   rintro e w1 ⟨rfl, hb1⟩
   rw [HTR.out]
   go_wp2_with fail
   clear hne hsz hsz'
   try clear hd0
   go_loopg [0, 4] S.size (fun gk v0 v4 wr => ∃ (p : Nat) (X : ByteArray) (g n c : Nat), v0 = .string X ∧ X.data.toList = S.data.toList.drop p ∧ X.size = gk ∧ p + gk = S.size ∧ (p = 0 ∨ gk % 9 = 0) ∧ v4 = .slice (some ⟨g, 0, none⟩) n c ∧ Own wr w.heap.size g n c (N.ofN (N.val (S.data.toList.take p))) ∧ Below w.heap.size w wr ∧ n ≤ p)
   case atStart => exact ⟨0, S, _, _, _, rfl, rfl, rfl, by omega, .inl rfl, rfl, (Own.empty w1).mono hb1.size, hb1.alloc hb1.size _, by omega⟩
   case round =>
    obtain ⟨G, rfl⟩ : ∃ G : Nat, G = gk := ⟨_, rfl⟩
    obtain ⟨p, X, g, n, c, rfl, hX, hXs, hpG, hmul, rfl, hown, hbw, hnp⟩ := hrel
    obtain ⟨wo, rfl⟩ : ∃ wo : World, wo = wr := ⟨_, rfl⟩
    have HX := Lib.hid hX
    have HXs := Lib.hid hXs
    have HPG := Lib.hid hpG
    clear hX hXs hpG
    by_cases hG : G = 0
    ·
     have hX0 : X.size = 0 := by have := HXs.out; omega
     have hp : p = S.size := by have := HPG.out; omega
     have HP := Lib.hid hp
     clear hp hmul hnp
     have HG0 := Lib.hid hG
     clear hG
     go_wp2_with fail
     go_ret2
     have e : S.data.toList.take p = S.data.toList := List.take_of_length_le (by rw [HP.out, Array.length_toList]; exact Nat.le_refl _)
     rw [e] at hown
     exact ⟨_, _, _, rfl, hown, hbw⟩
    ·
     obtain ⟨Q, hQ⟩ : ∃ Q : Nat, ((X.size : Int) - 1) % 9 + 1 = (Q : Int) := ⟨(X.size - 1) % 9 + 1, by have := HXs.out; omega⟩
     have hXp : (0 : Int) < X.size := by have := HXs.out; omega
     have hXle : X.size ≤ 1099511627776 := by have := HXs.out; have := HPG.out; omega
     have hQ1 : Q ≤ X.size := by omega
     have hQ2 : Q ≤ 9 := by omega
     have hQ3 : 1 ≤ Q := by omega
     go_wp2_with (with_reducible refine wpList_bytes _ rfl (.tmp 39) 9 71 5 rfl _ rfl Tryz.underlying9 Tryz.underlying71 Tryz.underlying5 ?_; intro w2 cb hcb hbytes hb2)
     obtain ⟨C, hC⟩ : ∃ C, C = X.data.toList.take Q := ⟨_, rfl⟩
     have hCl : C.length = Q := by rw [hC, List.length_take]; exact Nat.min_eq_left hQ1
     have hCd : ∀ ch ∈ C, N.isDig ch := fun ch hch => by
      rw [hC, HX.out] at hch
      exact hok.2.1 ch (List.mem_of_mem_drop (List.mem_of_mem_take hch))
     have hby : ∀ j, j < Q → w2.cell? ⟨wo.heap.size, j, none⟩ = some (.int .u8 ((C.getD j 0).toNat : Nat)) := fun j hj => by
      have h1 := hbytes j (by rw [ext_size hQ1]; exact hj)
      rw [ext_list, ← hC] at h1; exact h1
     have HBY := Lib.hid hby
     have HCL := Lib.hid hCl
     have HCD := Lib.hid hCd
     have HC := Lib.hid hC
     clear hby hbytes hCl hCd hC
     go_loopg [6, 42] Q (fun gk v6 v42 wr => ∃ j : Nat, gk + j = Q ∧ v42 = .int .i64 (j : Nat) ∧ v6 = .int .u64 (N.val (C.take j) : Nat) ∧ w2 = wr)
     case atStart => exact ⟨0, rfl, rfl, by simp [N.val], rfl⟩
     case round =>
      obtain ⟨j, hjQ, rfl, rfl, rfl⟩ := hrel
      by_cases hj : j < Q
      ·
       have hcj := HBY.out j hj
       have hmem : C.getD j 0 ∈ C := by
        have : j < C.length := by rw [HCL.out]; exact hj
        simp [List.getD, this]
       have hdig := HCD.out _ hmem
       have htk : C.take (j + 1) = C.take j ++ [C.getD j 0] := by
        have : j < C.length := by rw [HCL.out]; exact hj
        rw [List.take_succ_eq_append_getElem this]; simp [List.getD, this]
       have hvl : N.val (C.take j) < 1000000000 := by
        have h1 := N.val_lt (l := C.take j) (fun c hc => HCD.out c (List.mem_of_mem_take hc))
        have h2 : (C.take j).length ≤ 9 := by rw [List.length_take, HCL.out]; omega
        exact Nat.lt_of_lt_of_le h1 (Nat.pow_le_pow_right (by omega) h2)
       have hvs : N.val (C.take (j + 1)) = 10 * N.val (C.take j) + ((C.getD j 0).toNat - 48) := by rw [htk, N.val_snoc]
       have HVS := Lib.hid hvs
       clear hvs htk hmem
       unfold N.isDig at hdig
       generalize (C.getD j 0).toNat = ch at *
       generalize N.val (C.take j) = vv at *
       obtain ⟨hdig1, hdig2⟩ := hdig
       go_wp2_with fail
       go_roundg (gk - 1)
       case measure => omega
       case rel => exact ⟨j + 1, by omega, by go_num, by rw [HVS.out]; go_num, rfl⟩
      ·
       obtain rfl : j = Q := by omega
       go_wp2_with fail
       have hDl : N.val (C.take j) < 1000000000 := by
        have h1 := N.val_lt (l := C.take j) (fun c hc => HCD.out c (List.mem_of_mem_take hc))
        have h2 : (C.take j).length ≤ 9 := by rw [List.length_take, HCL.out]; omega
        exact Nat.lt_of_lt_of_le h1 (Nat.pow_le_pow_right (by omega) h2)
       have hDC : C.take j = C := List.take_of_length_le (by rw [HCL.out]; exact Nat.le_refl _)
       rw [hDC] at hDl ⊢
       clear hDC
       -- what the text says up to here
       have hstep : N.val (S.data.toList.take (p + j)) = N.val (S.data.toList.take p) * 1000000000 + N.val C := by
        have hXl : X.data.toList.length = X.size := Array.length_toList
        have h1 : S.data.toList.take (p + j) = S.data.toList.take p ++ C := by
         rw [HC.out, HX.out, ← List.take_add]
        rw [h1, N.val_append, HCL.out]
        rcases hmul with h2 | h2
        · subst h2; simp [N.val]
        · have h3 : j = 9 := by have := HXs.out; omega
          rw [h3]
       have HSTEP := Lib.hid hstep
       clear hstep
       obtain ⟨D, hD⟩ : ∃ D, D = N.val C := ⟨_, rfl⟩
       rw [← hD] at hDl ⊢
       have HD := Lib.hid hD
       clear hD
       obtain ⟨V, hV⟩ : ∃ V, V = N.val (S.data.toList.take p) := ⟨_, rfl⟩
       rw [← hV] at hown
       have HV := Lib.hid hV
       clear hV
       have hown2 := hown.below hb2
       have hlV := hown.len
       have HLV := Lib.hid hlV
       clear hlV hown
       obtain ⟨l, hl⟩ : ∃ l, l = N.ofN V := ⟨_, rfl⟩
       rw [← hl] at hown2
       have hll : l.length = n := by rw [hl]; exact HLV.out
       have HLL := Lib.hid hll
       have HL := Lib.hid hl
       clear hl hll
       have hllim := hown2.lim
       have hnb : n ≤ 1099511627776 := by have := HPG.out; omega
       have hrest : (X.extract j X.size).data.toList = S.data.toList.drop (p + j) ∧ (X.extract j X.size).size = G - j ∧ (p + j) + (G - j) = S.size ∧ (p + j = 0 ∨ (G - j) % 9 = 0) := by
        have h1 := HXs.out
        have h2 := HPG.out
        refine ⟨?_, ?_, by omega, .inr (by omega)⟩
        · rw [ext_drop, HX.out, List.drop_drop]
        · rw [ext_drop_size, h1]
       have HREST := Lib.hid hrest
       clear hrest
       go_loopg [6, 55] n (fun gk v6 v55 wq => ∃ k : Nat, gk + k = n ∧ v55 = .int .i64 (k : Nat) ∧ v6 = .int .u64 (N.mC 1000000000 D l k) ∧ Own wq w.heap.size g n c (N.mS 1000000000 D l k) ∧ w2.grownBy wq (some g))
       case atStart => exact ⟨0, rfl, rfl, rfl, hown2, World.grownBy.refl _ _⟩
       case round =>
        obtain ⟨k, hkn, rfl, rfl, hown3, hgr⟩ := hrel
        have hmc := N.mC_lt hllim hDl k
        by_cases hk : k < n
        ·
         have hc1 := hown3.cell k hk
         rw [N.mS_dg_ge _ _ _ _ _ (Nat.le_refl _)] at hc1
         have hf1 := hown3.free k
         have hx := N.dg_lt hllim k
         have hmcs : N.mC 1000000000 D l (k + 1) = (N.mC 1000000000 D l k + N.dg l k * 1000000000) / 4294967296 := rfl
         have hmss : N.mS 1000000000 D l (k + 1) = (N.mS 1000000000 D l k).set k ((N.mC 1000000000 D l k + N.dg l k * 1000000000) % 4294967296) := rfl
         have HMC := Lib.hid hmcs
         have HMS := Lib.hid hmss
         clear hmcs hmss
         go_wp2_with fail
         go_roundg (gk - 1)
         case measure => omega
         case rel => exact ⟨k + 1, by omega, by go_num, by rw [HMC.out]; go_num, by rw [HMS.out]; exact hown3.set' k _ (Nat.mod_lt _ (by omega)) _ (by omega), gb_set hgr _ _⟩
        ·
         obtain rfl : k = n := by omega
         have hz1 := hbw.size
         have hgb := hown3.base_le
         have hbw2 : Below w.heap.size w w2 := hbw.trans (hb2.mono hz1)
         have hz2 := hbw2.size
         have hbw3 : Below w.heap.size w wr := hbw2.grown hgr hz2 (by intro k hk; injection hk with hk; omega)
         have hz3 := hbw3.size
         have hmall := @N.mS_all 1000000000 D V (by omega)
         have hmmore := @N.mS_more 1000000000 D V
         rw [← HL.out, HLL.out] at hmall hmmore
         have HMA := Lib.hid hmall
         have HMM := Lib.hid hmmore
         clear hmall hmmore
         by_cases hm0 : N.mC 1000000000 D l k = 0
         · have ht : decide (0 < N.mC 1000000000 D l k) = false := by simp [hm0]
           have hfin := HMA.out hm0
           have HF := Lib.hid hfin
           have HM0 := Lib.hid hm0
           clear hfin hm0
           go_wp2_with fail
           go_roundg (G - j)
           case measure => omega
           case rel =>
            obtain ⟨r1, r2, r3, r4⟩ := HREST.out
            refine ⟨p + j, _, g, k, c, rfl, r1, r2, r3, r4, rfl, ?_, hbw3, by omega⟩
            rw [HSTEP.out, ← HV.out, ← HD.out, ← HF.out]
            exact hown3
         ·
          have ht : decide (0 < N.mC 1000000000 D l k) = true := by simp; omega
          have hfin := HMM.out (by omega) (by omega)
          have HF := Lib.hid hfin
          clear hfin hm0
          obtain ⟨m, hm⟩ : ∃ m, m = N.mC 1000000000 D l k := ⟨_, rfl⟩
          rw [← hm] at hmc ht HF ⊢
          have HM := Lib.hid hm
          clear hm
          have hownA : Own (wr.alloc (.cells #[.int .u32 (m : Nat)] 69)) w.heap.size g k c (N.mS 1000000000 D l k) := hown3.below ((Below.refl _ _).alloc (Nat.le_refl _) _)
          have hnews : 0 < 1 → ∃ ad, some (⟨wr.heap.size, 0, none⟩ : Addr) = some ad ∧ ∀ j u, (lv [m])[j]? = some u → (wr.alloc (.cells #[.int .u32 (m : Nat)] 69)).cell? (ad.add j) = some u := fun _ => by
           refine ⟨_, rfl, fun j u hu => ?_⟩
           rw [Addr.add_lit, cell_of_row _ _ _ _ _ _ (heap_alloc_new wr _)]
           simpa [lv] using hu
          have hml : N.Lim [m] := N.Lim.cons (by omega) N.Lim.nil
          go_wp2_with (at_builtin; refine wpList_append_lim _ rfl (.tmp 75) (.tmp 78) 23 rfl w.heap.size i0 Tryz.underlying23 hi iz0 iz1 iz2 _ _ _ _ rfl hownA _ 1 1 [m] rfl rfl hml hnews (by omega) (by simp; omega) _ rfl _ rfl ?_; intro g4 c4 w4 ho4 hg4)
          go_roundg (G - j)
          case measure => omega
          case rel =>
           obtain ⟨r1, r2, r3, r4⟩ := HREST.out
           refine ⟨p + j, _, g4, k + 1, c4, rfl, r1, r2, r3, r4, rfl, ?_, (hbw3.alloc hz3 _).grown hg4 (by simp; omega) (by intro k' hk'; injection hk' with hk'; omega), by omega⟩
           rw [HSTEP.out, ← HV.out, ← HD.out, ← HF.out]
           exact ho4
theorem trimS_nil {l cs : List UInt8} (h : Lib.trimS l cs = []) : ∀ c ∈ l, c ∈ cs := by
 have key : ∀ (k : List UInt8), k.dropWhile (cs.contains ·) = [] → ∀ c ∈ k, c ∈ cs := by
  intro k
  induction k with
  | nil => intro _ c hc; cases hc
  | cons a k ih =>
   intro hk c hc
   rw [List.dropWhile_cons] at hk
   by_cases ha : cs.contains a = true
   · rw [if_pos ha] at hk
     rcases List.mem_cons.1 hc with rfl | hc
     · simpa using ha
     · exact ih hk c hc
   · rw [if_neg ha] at hk; cases hk
 unfold Lib.trimS Lib.trimLeftS at h
 have h1 := key _ h
 by_cases h2 : Lib.trimRightS l cs = []
 · unfold Lib.trimRightS at h2
   have h3 := key _ (List.reverse_eq_nil_iff.1 h2)
   exact fun c hc => h3 c (by simpa using hc)
 ·
  -- the last of what is left is not in the set
  exfalso
  unfold Lib.trimRightS at h2 h1
  cases hd : l.reverse.dropWhile (cs.contains ·) with
  | nil => rw [hd] at h2; exact h2 rfl
  | cons a k =>
   have h4 : ∀ (m : List UInt8), m.dropWhile (cs.contains ·) = a :: k → cs.contains a = false := by
    intro m
    induction m with
    | nil => intro h; cases h
    | cons b m ih =>
     intro h
     rw [List.dropWhile_cons] at h
     by_cases hb : cs.contains b = true
     · rw [if_pos hb] at h; exact ih h
     · rw [if_neg hb] at h; injection h with h _; subst h; simpa using hb
   have h5 := h4 _ hd
   have h6 := h1 a (by rw [hd]; simp)
   simp at h5
   exact h5 h6
theorem mem_isDig {c : UInt8} (h : c ∈ ([48, 49, 50, 51, 52, 53, 54, 55, 56, 57] : List UInt8)) : N.isDig c := by
 unfold N.isDig
 revert h; revert c; decide
set_option maxRecDepth 100000 in
set_option maxHeartbeats 1000000 in
theorem parse_bad (w : World) (S : ByteArray) (hs : S.size ≤ 9223372036854775807) (hok : ¬ N.okTxt S.data.toList) :
    Calls Tryz.prog 159 #[.string S] w fun e w' => e = .returned (.tuple #[.slice none 0 0, .int .i64 12]) ∧ Below w.heap.size w w' := by
  by_cases hS0 : S.size = 0
  · have hne : S.toList = [] := by rw [ByteArray.toList_eq]; exact List.eq_nil_of_length_eq_zero (by rw [Array.length_toList]; exact hS0)
    go_enter Tryz.func159, Tryz.ntmps159
    go_wp2_with fail
    go_ret2
    exact ⟨rfl, Below.refl _ _⟩
  ·
   have hp : 0 < S.size := by omega
   have hne0 : S.data.toList ≠ [] := fun h => hS0 (by have := congrArg List.length h; rw [Array.length_toList] at this; exact this)
   have hne : S.toList.isEmpty = false := by
    rw [ByteArray.toList_eq]
    cases h : S.data.toList with
    | nil => exact absurd h hne0
    | cons _ _ => rfl
   have hh : S.data.toList.head? = some (S[0]'hp) := by
    rw [List.head?_eq_getElem?, Array.getElem?_toList]
    exact Array.getElem?_eq_getElem hp
   by_cases h48 : (S[0]'hp).toNat = 48 ∧ 1 < S.size
   ·
    have hd0 : (((S[0]'hp).toNat : Int) == 48) = true := by simp; omega
    have hsz : (1 : Int) < S.size := by omega
    have HH := Lib.hid h48
    clear h48
    go_enter Tryz.func159, Tryz.ntmps159
    go_wp2_with fail
    all_goals go_ret2
    all_goals exact ⟨rfl, Below.refl _ _⟩
   ·
    have htr : Lib.trimS S.data.toList [48, 49, 50, 51, 52, 53, 54, 55, 56, 57] ≠ [] := fun h => by
     refine hok ⟨hne0, fun c hc => mem_isDig (trimS_nil h c hc), fun e => ?_⟩
     rw [hh] at e
     have h1 : (S[0]'hp).toNat = 48 := by injection e with e; rw [e]; rfl
     have h2 : ¬ 1 < S.size := fun h => h48 ⟨h1, h⟩
     rw [Array.length_toList]
     show S.size = 1
     omega
    have hti : (Lib.trimS S.data.toList [48, 49, 50, 51, 52, 53, 54, 55, 56, 57]).isEmpty = false := by
     cases h : Lib.trimS S.data.toList [48, 49, 50, 51, 52, 53, 54, 55, 56, 57] with
     | nil => exact absurd h htr
     | cons _ _ => rfl
    have hcase : (1 < S.size ∧ (((S[0]'hp).toNat : Int) == 48) = false) ∨ S.size ≤ 1 := by
     by_cases h1 : 1 < S.size
     · exact .inl ⟨h1, by
        have h2 : (S[0]'hp).toNat ≠ 48 := fun h => h48 ⟨h, h1⟩
        simp; omega⟩
     · exact .inr (by omega)
    have HH := Lib.hid h48
    clear h48
    clear htr
    rcases hcase with ⟨h1, h2⟩ | h1
    all_goals
     go_enter Tryz.func159, Tryz.ntmps159
     go_wp2_with fail
     refine (trim_dec S _ hs).mono ?_
     rintro e w1 ⟨rfl, hb1⟩
     generalize Lib.trimS S.data.toList [48, 49, 50, 51, 52, 53, 54, 55, 56, 57] = T at *
     go_wp2_with fail
     go_ret2
     exact ⟨rfl, hb1⟩
end
section
namespace N
theorem nv_take_lt {l : List Nat} (h : Lim l) (k : Nat) : nv (l.take k) < 4294967296 ^ k := by
 have h1 := nv_lt (h.take k)
 rw [List.length_take] at h1
 exact Nat.lt_of_lt_of_le h1 (Nat.pow_le_pow_right (by omega) (Nat.min_le_left _ _))
theorem take_all {l : List Nat} {k : Nat} (h : l.length ≤ k) : l.take k = l := List.take_of_length_le h
theorem cmp_hi {x y P p q : Nat} (hx : x < P) (hy : y < P) : cmpN (x + P * p) (y + P * q) = if p < q then -1 else if q < p then 1 else cmpN x y := by
 rcases Nat.lt_trichotomy p q with h | h | h
 · rw [if_pos h]
   have h1 := Nat.mul_le_mul_left P (show p + 1 ≤ q from h)
   rw [Nat.mul_add] at h1
   exact cmpN_lt (by omega)
 · subst h
   rw [if_neg (Nat.lt_irrefl _), if_neg (Nat.lt_irrefl _)]
   unfold cmpN
   simp only [Nat.add_lt_add_iff_right]
 · rw [if_neg (by omega), if_pos h]
   have h1 := Nat.mul_le_mul_left P (show q + 1 ≤ p from h)
   rw [Nat.mul_add] at h1
   exact cmpN_gt (by omega)
theorem cmp_take {a b : List Nat} (ha : Lim a) (hb : Lim b) (k : Nat) : cmpN (nv (a.take (k + 1))) (nv (b.take (k + 1))) = if dg a k < dg b k then -1 else if dg b k < dg a k then 1 else cmpN (nv (a.take k)) (nv (b.take k)) := by
 rw [nv_take_succ', nv_take_succ']
 exact cmp_hi (nv_take_lt ha k) (nv_take_lt hb k)
theorem ofN_pos {x : Nat} (h : 0 < x) : 0 < (ofN x).length := by
 rcases Nat.eq_zero_or_pos (ofN x).length with h0 | h0
 · have := List.eq_nil_of_length_eq_zero h0
   rw [ofN_eq_nil] at this; omega
 · exact h0
end N
end
section
open Go.RowKit
def Val (w : World) (v : Value) (K x : Nat) : Prop := ∃ A n c l, v = .slice A n c ∧ Sl w A n c l ∧ N.nv l = x ∧ n ≤ K
def Bar (w : World) (v : Value) (K x : Nat) : Prop := ∃ A n c, v = .slice A n c ∧ Sl w A n c (N.ofN x) ∧ n ≤ K
section
variable {w w' : World} {v : Value} {K x : Nat}
theorem Val.below (h : Val w v K x) (hb : Below w.heap.size w w') : Val w' v K x := by
 obtain ⟨A, n, c, l, e, hs, hx, hn⟩ := h
 exact ⟨A, n, c, l, e, hs.below hb, hx, hn⟩
theorem Bar.below (h : Bar w v K x) (hb : Below w.heap.size w w') : Bar w' v K x := by
 obtain ⟨A, n, c, e, hs, hn⟩ := h
 exact ⟨A, n, c, e, hs.below hb, hn⟩
theorem Bar.val (h : Bar w v K x) : Val w v K x := by
 obtain ⟨A, n, c, e, hs, hn⟩ := h
 exact ⟨A, n, c, _, e, hs, N.nv_ofN x, hn⟩
theorem Val.lt (h : Val w v K x) : x < 4294967296 ^ K := by
 obtain ⟨A, n, c, l, e, hs, hx, hn⟩ := h
 have h1 := N.nv_lt hs.lim
 rw [hs.len, hx] at h1
 exact Nat.lt_of_lt_of_le h1 (Nat.pow_le_pow_right (by omega) hn)
end
theorem lv_take (l : List Nat) (k : Nat) : lv (l.take k) = (lv l).take k := by simp [lv, List.map_take]
theorem lv_splice (l r : List Nat) (k : Nat) : lv (splice l k r) = splice (lv l) k (lv r) := by
 simp [lv, splice, List.map_take, List.map_drop]
theorem splice_all (n : Nat) (r : List Nat) (h : r.length = n) : splice (List.replicate n 0) 0 r = r := by
 simp [splice, h]
theorem N.Lim.splice {l r : List Nat} (hl : N.Lim l) (hr : N.Lim r) (k : Nat) : N.Lim (Go.splice l k r) := (hl.take k).app (hr.app (hl.drop _))
theorem take_splice {α : Type} (L : List α) (off : Nat) (cs : List α) (n : Nat) (h : off + cs.length ≤ n) : (splice L off cs).take n = splice (L.take n) off cs := by
 unfold splice
 apply List.ext_getElem?
 intro k
 simp only [List.getElem?_append, List.getElem?_take, List.getElem?_drop, List.length_take]
 grind
theorem at_copy {P : Program} {w : World} {ops : Array Oper} {rest : List Oper} {dst : Option Tmp} {A : Array Operand} {T : Array TypeId} {ty : TypeId} {p : String} {af : Array Edge} {g : Option (Nat × Bool)} {a : Act} {Q : Exit → Act → World → Prop}
    (h : wpList P ops Q (⟨dst, .call { callee := .builtin .copy, args := A, argTypes := T }, ty, p, af, g⟩ :: rest) a w) : wpList P ops Q (⟨dst, .call { callee := .builtin .copy, args := A, argTypes := T }, ty, p, af, g⟩ :: rest) a w := h
theorem wpList_copy_lim {P : Program} {w : World} {ops : Array Oper} {rest : List Oper} {o : Oper} {a : Act} {Q : Exit → Act → World → Prop} (hgd : o.guard = none) (d s : Operand) (dT sT : TypeId)
    (ho : o.op = .call { callee := .builtin .copy, args := #[d, s], argTypes := #[dT, sT] }) (hu : P.underlying dT = some (.slice 69)) (hsz : (P.info? 69).map (·.size) = some 1)
    (dp sp : Option Addr) (dLen dCap sLen sCap : Nat) (hd : a.eval d = .slice dp dLen dCap) (hs : a.eval s = .slice sp sLen sCap)
    (base g n c off : Nat) (l : List Nat) (hown : Own w base g n c l) (r : List Nat) (hsrc : Sl w sp sLen sCap r) (k : Nat) (hk : k = Nat.min sLen dLen) (hdp : 0 < k → dp = some ⟨g, off, none⟩) (hfit : off + k ≤ n)
    (ys : List Nat) (hys : splice l off (r.take k) = ys)
    (B : Nat) (w0 : World) (hb : Below B w0 w) (hBg : B ≤ g)
    (h : ∀ w', Own w' base g n c ys → Below B w0 w' → wpList P ops Q rest (a.put o.dst (goInt k)) w') :
    wpList P ops Q (o :: rest) a w := by
  subst hys
  have hl := hown.len
  have hsl := hsrc.len
  have hks : k ≤ sLen := by rw [hk]; exact Nat.min_le_left _ _
  have hlk : (r.take k).length = k := by rw [List.length_take]; omega
  rcases hown.own.2 with ⟨e, _⟩ | ⟨g', cap, cur, e, a1, a2, a3, a4, a5, a6⟩
  · cases e
  injection e with e1 e2 e3
  injection e1 with e1; injection e1 with e1
  subst e1; subst e3
  have hcl : (lv (r.take k)).length = k := by rw [lv_length, hlk]
  have hcs : cur.size = c := by omega
  refine wpList_copy_splice hgd d s dT sT ho _ hu hsz dp sp dLen dCap sLen sCap hd hs g off cur.toList _ (by simpa using a2) (lv (r.take k)) (by rw [hcl, hk]) ?_ (by rw [hcl, Array.length_toList]; omega) (lv_oneCell _) B w0 hb hBg ?_
  ·
   intro h0
   rw [hcl] at h0
   refine ⟨hdp h0, ?_⟩
   obtain ⟨ad, e, hc⟩ := hsrc.news (by omega)
   refine ⟨ad, e, fun j v hv => hc j v ?_⟩
   rw [lv_take] at hv
   rw [List.getElem?_take] at hv
   split at hv
   · exact hv
   · cases hv
  ·
   intro w' hg hb'
   have hg := hg.out
   rw [hcl]
   refine h w' ⟨⟨?_, .inr ⟨g, c, _, rfl, a1, hg, a3, a4, ?_, ?_⟩⟩, N.Lim.splice hown.lim (hsrc.lim.take k) off, full_of_ints hg ?_ ?_⟩ hb'
   · rw [lv_length, length_splice _ _ _ (by omega)]; omega
   · rw [List.size_toArray, length_splice _ _ _ (by rw [hcl, Array.length_toList]; omega), Array.length_toList]; omega
   · rw [lv_splice, ← a6, List.toList_toArray, take_splice _ _ _ _ (by omega)]
   ·
    have hi := ints_of_full a2 hown.full (by omega)
    intro u hu
    rw [List.toList_toArray] at hu
    simp only [splice, List.mem_append] at hu
    rcases hu with hu | hu | hu
    · exact hi u (List.mem_of_mem_take hu)
    · exact ints_lv _ u hu
    · exact hi u (List.mem_of_mem_drop hu)
   · rw [List.size_toArray, length_splice _ _ _ (by rw [hcl, Array.length_toList]; omega), Array.length_toList]; omega
structure Out (w : World) (base : Nat) (v : Value) (l : List Nat) : Prop where
 own : w.ownsRow base 69 1 v l.length (lv l)
 lim : N.Lim l
section
variable {w w' : World} {base : Nat} {v : Value} {l : List Nat}
theorem Out.nil (w : World) (base : Nat) : Out w base (.slice none 0 0) [] := ⟨World.ownsRow_nil _ _ _ _, N.Lim.nil⟩
theorem Out.kept (h : Out w base v l) {row : Option Nat} (hg : w.grownBy w' row) (hne : v.ownBlock = none ∨ v.ownBlock ≠ row) : Out w' base v l := ⟨h.own.kept hg hne, h.lim⟩
theorem Out.below (h : Out w base v l) (hb : Below w.heap.size w w') : Out w' base v l :=
 h.kept (gb_of_below hb none) (by cases v.ownBlock <;> simp)
theorem Out.drewN (h : Out w base v l) (k : Nat) : Out (w.drewN k) base v l := ⟨h.own, h.lim⟩
theorem Out.sl (h : Out w base v l) : ∃ A c, v = .slice A l.length c ∧ Sl w A l.length c l := by
 rcases h.own.2 with ⟨rfl, h0⟩ | ⟨g, cap, cur, rfl, _, _, hle, _⟩
 · have := List.eq_nil_of_length_eq_zero h0
   subst this
   exact ⟨none, 0, rfl, Sl.nil _ _ _⟩
 · refine ⟨some ⟨g, 0, none⟩, cap, rfl, rfl, hle, h.lim, fun _ => ⟨g, 0, rfl, fun k hk => ?_⟩⟩
   rw [Nat.zero_add, h.own.cellAt k (by omega), lv_get l k hk]
end
theorem info_size32 : (Tryz.prog.info? 69).map (·.size) = some 1 := by kernel_rfl
set_option maxRecDepth 100000 in
set_option maxHeartbeats 400000 in
theorem rtrim_any (w : World) (A : Option Addr) (n c : Nat) (l : List Nat) (h : Sl w A n c l) (hm : n ≤ 35184372088832) :
    Calls Tryz.prog 96 #[.slice A n c] w fun e w' => ∃ g n' c', e = .returned (.slice (some ⟨g, 0, none⟩) n' c') ∧ Own w' w.heap.size g n' c' (N.ofN (N.nv l)) ∧ Below w.heap.size w w' := by
  obtain ⟨i0, hi, hz0, hz1, hz2⟩ := info_parts info_u32
  have hcap := h.cap
  have hlen := h.len
  have HLEN := Lib.hid hlen
  clear hlen
  go_enter Tryz.func96, Tryz.ntmps96
  go_wp2_with fail
  go_loop [3] (fun v => ∃ k : Nat, k ≤ n ∧ v = .int .i64 k ∧ ∀ j, k ≤ j → j < n → N.dg l j = 0) (fun v => (intOf v).toNat)
  case atStart => exact ⟨n, Nat.le_refl _, rfl, fun j h1 h2 => by omega⟩
  case round =>
   obtain ⟨k, hk, rfl, hz⟩ := hrel
   have HZ := Lib.hid hz
   clear hz
   by_cases hk0 : k = 0
   ·
    subst hk0
    have e : l.take 0 = N.ofN (N.nv l) := N.take_bare h.lim (by omega) (fun j h1 h2 => HZ.out j h1 (by rw [HLEN.out] at h2; exact h2)) (.inl rfl)
    have E := Lib.hid e
    clear e
    go_wp2_with (first
     | (at_make; refine wpList_make_lim _ rfl (.tmp 19) (.tmp 19) 23 rfl i0 Tryz.underlying23 hi hz0 hz1 hz2 .i64 .i64 _ _ 0 rfl rfl (by omega) (by omega) (by omega) ?_; intro w1 ho1 hb1; have hs1 := h.below hb1)
     | (with_reducible refine at_copy ?_; refine wpList_copy_lim rfl (.tmp 21) (.tmp 22) _ _ rfl Tryz.underlying23 info_size32 _ _ _ _ _ _ rfl rfl _ _ _ _ 0 _ ho1 l hs1 0 (by simp) (fun _ => rfl) (by omega) (N.ofN (N.nv l)) (by rw [← E.out]; exact splice_all _ _ (by simp)) w.heap.size w hb1 (Nat.le_refl _) ?_; intro w2 ho2 hb2))
    go_ret
    exact ⟨_, _, _, rfl, ho2, hb2⟩
   ·
    obtain ⟨b, o, rfl, hc⟩ := h.cells (by omega)
    have hck := hc (k - 1) (by omega)
    clear hc
    by_cases hd : N.dg l (k - 1) = 0
    ·
     have ht : ((N.dg l (k - 1) : Int) == 0) = true := by simpa using hd
     have HD := Lib.hid hd
     clear hd
     go_wp2_with fail
     go_round
     case rel =>
      refine ⟨k - 1, by omega, by go_num, fun j h1 h2 => ?_⟩
      rcases Nat.lt_or_ge j k with h3 | h3
      · obtain rfl : j = k - 1 := by omega
        exact HD.out
      · exact HZ.out j h3 h2
     case measure => simp [intOf]; omega
    ·
     have ht : ((N.dg l (k - 1) : Int) == 0) = false := by simpa using hd
     have e : l.take k = N.ofN (N.nv l) := N.take_bare h.lim (by rw [HLEN.out]; exact hk) (fun j h1 h2 => HZ.out j h1 (by rw [HLEN.out] at h2; exact h2)) (.inr hd)
     have E := Lib.hid e
     clear e hd
     go_wp2_with (first
      | (at_make; refine wpList_make_lim _ rfl (.tmp 19) (.tmp 19) 23 rfl i0 Tryz.underlying23 hi hz0 hz1 hz2 .i64 .i64 _ _ k rfl rfl (by omega) (by omega) (by omega) ?_; intro w1 ho1 hb1; have hs1 := h.below hb1)
      | (with_reducible refine at_copy ?_; refine wpList_copy_lim rfl (.tmp 21) (.tmp 22) _ _ rfl Tryz.underlying23 info_size32 _ _ _ _ _ _ rfl rfl _ _ _ _ 0 _ ho1 l hs1 k (Nat.min_eq_right hk).symm (fun _ => rfl) (by omega) (N.ofN (N.nv l)) (by rw [← E.out]; exact splice_all _ _ (by rw [List.length_take, HLEN.out]; omega)) w.heap.size w hb1 (Nat.le_refl _) ?_; intro w2 ho2 hb2))
     go_ret
     exact ⟨_, _, _, rfl, ho2, hb2⟩
theorem byte_at {S : ByteArray} {i : Nat} (h : i < S.size) : S.data.toList[i]? = some (S[i]'h) := by
 rw [Array.getElem?_toList]; exact Array.getElem?_eq_getElem h
theorem not_empty {S : ByteArray} (h : 0 < S.size) : S.toList.isEmpty = false ∧ S.toList ≠ [] := by
 have h1 : S.toList ≠ [] := by
  rw [ByteArray.toList_eq]
  intro e
  have := congrArg List.length e
  rw [Array.length_toList] at this
  exact absurd this (by show ¬ S.size = 0; omega)
 refine ⟨?_, h1⟩
 cases hh : S.toList with
 | nil => exact absurd hh h1
 | cons _ _ => rfl
theorem size_list (S : ByteArray) : S.data.toList.length = S.size := Array.length_toList
end
section
open Go.RowKit
theorem getD_byte {S : ByteArray} {i : Nat} (h : i < S.size) : S.data.toList.getD i 0 = S[i]'h := by
 have := byte_at h
 simp [List.getD, this]
theorem X.letter_cases (c : UInt8) : (X.letter c = true ∧ 97 ≤ c.toNat ∧ c.toNat ≤ 122) ∨ (X.letter c = true ∧ 65 ≤ c.toNat ∧ c.toNat ≤ 90) ∨ (X.letter c = false ∧ c.toNat < 65) ∨ (X.letter c = false ∧ 90 < c.toNat ∧ c.toNat < 97) ∨ (X.letter c = false ∧ 122 < c.toNat) := by
 unfold X.letter
 rcases (show (97 ≤ c.toNat ∧ c.toNat ≤ 122) ∨ (65 ≤ c.toNat ∧ c.toNat ≤ 90) ∨ c.toNat < 65 ∨ (90 < c.toNat ∧ c.toNat < 97) ∨ 122 < c.toNat by omega) with h | h | h | h | h
 · exact .inl ⟨by simp [h], h⟩
 · exact .inr (.inl ⟨by simp [h], h⟩)
 · exact .inr (.inr (.inl ⟨by simp; omega, h⟩))
 · exact .inr (.inr (.inr (.inl ⟨by simp; omega, h⟩)))
 · exact .inr (.inr (.inr (.inr ⟨by simp; omega, h⟩)))
theorem X.digit_cases (c : UInt8) : (X.digit c = true ∧ 48 ≤ c.toNat ∧ c.toNat ≤ 57) ∨ (X.digit c = false ∧ c.toNat < 48) ∨ (X.digit c = false ∧ 57 < c.toNat) := by
 unfold X.digit
 rcases (show (48 ≤ c.toNat ∧ c.toNat ≤ 57) ∨ c.toNat < 48 ∨ 57 < c.toNat by omega) with h | h | h
 · exact .inl ⟨by simp [h], h⟩
 · exact .inr (.inl ⟨by simp; omega, h⟩)
 · exact .inr (.inr ⟨by simp; omega, h⟩)
theorem letter_x (w : World) (c : UInt8) :
    Calls Tryz.prog 116 #[.int .u8 (c.toNat : Nat)] w fun e w' => e = .returned (.bool (X.letter c)) ∧ w = w' := by
  rcases X.letter_cases c with ⟨hc, h1, h2⟩ | ⟨hc, h1, h2⟩ | ⟨hc, h1⟩ | ⟨hc, h1, h2⟩ | ⟨hc, h1⟩
  ·
   rw [hc]
   clear hc
   have d0a : decide ((c.toNat : Int) ≥ 97) = true := decide_eq_true (by omega)
   have d0b : decide ((97 : Int) ≤ c.toNat) = true := decide_eq_true (by omega)
   have d1a : decide ((c.toNat : Int) ≤ 122) = true := decide_eq_true (by omega)
   have d2a : decide ((c.toNat : Int) ≥ 65) = true := decide_eq_true (by omega)
   have d2b : decide ((65 : Int) ≤ c.toNat) = true := decide_eq_true (by omega)
   have d3a : decide ((c.toNat : Int) ≤ 90) = false := decide_eq_false (by omega)
   clear h1 h2
   go_enter Tryz.func116, Tryz.ntmps116
   go_wp2_with fail
   go_ret
   exact ⟨rfl, rfl⟩
  ·
   rw [hc]
   clear hc
   have d0a : decide ((c.toNat : Int) ≥ 97) = false := decide_eq_false (by omega)
   have d0b : decide ((97 : Int) ≤ c.toNat) = false := decide_eq_false (by omega)
   have d1a : decide ((c.toNat : Int) ≤ 122) = true := decide_eq_true (by omega)
   have d2a : decide ((c.toNat : Int) ≥ 65) = true := decide_eq_true (by omega)
   have d2b : decide ((65 : Int) ≤ c.toNat) = true := decide_eq_true (by omega)
   have d3a : decide ((c.toNat : Int) ≤ 90) = true := decide_eq_true (by omega)
   clear h1 h2
   go_enter Tryz.func116, Tryz.ntmps116
   go_wp2_with fail
   go_ret
   exact ⟨rfl, rfl⟩
  ·
   rw [hc]
   clear hc
   have d0a : decide ((c.toNat : Int) ≥ 97) = false := decide_eq_false (by omega)
   have d0b : decide ((97 : Int) ≤ c.toNat) = false := decide_eq_false (by omega)
   have d1a : decide ((c.toNat : Int) ≤ 122) = true := decide_eq_true (by omega)
   have d2a : decide ((c.toNat : Int) ≥ 65) = false := decide_eq_false (by omega)
   have d2b : decide ((65 : Int) ≤ c.toNat) = false := decide_eq_false (by omega)
   have d3a : decide ((c.toNat : Int) ≤ 90) = true := decide_eq_true (by omega)
   clear h1
   go_enter Tryz.func116, Tryz.ntmps116
   go_wp2_with fail
   go_ret
   exact ⟨rfl, rfl⟩
  ·
   rw [hc]
   clear hc
   have d0a : decide ((c.toNat : Int) ≥ 97) = false := decide_eq_false (by omega)
   have d0b : decide ((97 : Int) ≤ c.toNat) = false := decide_eq_false (by omega)
   have d1a : decide ((c.toNat : Int) ≤ 122) = true := decide_eq_true (by omega)
   have d2a : decide ((c.toNat : Int) ≥ 65) = true := decide_eq_true (by omega)
   have d2b : decide ((65 : Int) ≤ c.toNat) = true := decide_eq_true (by omega)
   have d3a : decide ((c.toNat : Int) ≤ 90) = false := decide_eq_false (by omega)
   clear h1 h2
   go_enter Tryz.func116, Tryz.ntmps116
   go_wp2_with fail
   go_ret
   exact ⟨rfl, rfl⟩
  ·
   rw [hc]
   clear hc
   have d0a : decide ((c.toNat : Int) ≥ 97) = true := decide_eq_true (by omega)
   have d0b : decide ((97 : Int) ≤ c.toNat) = true := decide_eq_true (by omega)
   have d1a : decide ((c.toNat : Int) ≤ 122) = false := decide_eq_false (by omega)
   have d2a : decide ((c.toNat : Int) ≥ 65) = true := decide_eq_true (by omega)
   have d2b : decide ((65 : Int) ≤ c.toNat) = true := decide_eq_true (by omega)
   have d3a : decide ((c.toNat : Int) ≤ 90) = false := decide_eq_false (by omega)
   clear h1
   go_enter Tryz.func116, Tryz.ntmps116
   go_wp2_with fail
   go_ret
   exact ⟨rfl, rfl⟩
theorem digit_x (w : World) (c : UInt8) :
    Calls Tryz.prog 148 #[.int .u8 (c.toNat : Nat)] w fun e w' => e = .returned (.bool (X.digit c)) ∧ w = w' := by
  rcases X.digit_cases c with ⟨hc, h1, h2⟩ | ⟨hc, h1⟩ | ⟨hc, h1⟩
  ·
   rw [hc]
   clear hc
   have d0a : decide ((c.toNat : Int) ≥ 48) = true := decide_eq_true (by omega)
   have d0b : decide ((48 : Int) ≤ c.toNat) = true := decide_eq_true (by omega)
   have d1a : decide ((c.toNat : Int) ≤ 57) = true := decide_eq_true (by omega)
   clear h1 h2
   go_enter Tryz.func148, Tryz.ntmps148
   go_wp2_with fail
   go_ret
   exact ⟨rfl, rfl⟩
  ·
   rw [hc]
   clear hc
   have d0a : decide ((c.toNat : Int) ≥ 48) = false := decide_eq_false (by omega)
   have d0b : decide ((48 : Int) ≤ c.toNat) = false := decide_eq_false (by omega)
   have d1a : decide ((c.toNat : Int) ≤ 57) = true := decide_eq_true (by omega)
   clear h1
   go_enter Tryz.func148, Tryz.ntmps148
   go_wp2_with fail
   go_ret
   exact ⟨rfl, rfl⟩
  ·
   rw [hc]
   clear hc
   have d0a : decide ((c.toNat : Int) ≥ 48) = true := decide_eq_true (by omega)
   have d0b : decide ((48 : Int) ≤ c.toNat) = true := decide_eq_true (by omega)
   have d1a : decide ((c.toNat : Int) ≤ 57) = false := decide_eq_false (by omega)
   clear h1
   go_enter Tryz.func148, Tryz.ntmps148
   go_wp2_with fail
   go_ret
   exact ⟨rfl, rfl⟩
theorem bytes_ext {S : ByteArray} {l : List UInt8} (h : S.data.toList = l) : S = ⟨l.toArray⟩ := by
 obtain ⟨⟨l'⟩⟩ := S
 have : l' = l := h
 rw [this]
theorem toList_beq {S : ByteArray} {l : List UInt8} (h : S.data.toList ≠ l) : (S.toList == l) = false := by
 rw [ByteArray.toList_eq]
 simpa using h
theorem X.word_cases (l : List UInt8) : (X.word l = true ∧ (l = [97, 110, 100] ∨ l = [111, 114] ∨ l = [110, 111, 116] ∨ l = [105, 109, 112, 108, 105, 101, 115] ∨ l = [105, 102, 102] ∨ l = [115, 111, 109, 101] ∨ l = [97, 108, 108] ∨ l = [116, 114, 117, 101] ∨ l = [102, 97, 108, 115, 101] ∨ l = [100, 105, 118, 105, 100, 101, 115])) ∨ (X.word l = false ∧ l ≠ [97, 110, 100] ∧ l ≠ [111, 114] ∧ l ≠ [110, 111, 116] ∧ l ≠ [105, 109, 112, 108, 105, 101, 115] ∧ l ≠ [105, 102, 102] ∧ l ≠ [115, 111, 109, 101] ∧ l ≠ [97, 108, 108] ∧ l ≠ [116, 114, 117, 101] ∧ l ≠ [102, 97, 108, 115, 101] ∧ l ≠ [100, 105, 118, 105, 100, 101, 115]) := by
 by_cases h : X.word l = true
 · refine .inl ⟨h, ?_⟩
   have h2 : l ∈ X.words := by simpa [X.word] using h
   simpa [X.words] using h2
 · have h2 : l ∉ X.words := by simpa [X.word] using h
   refine .inr ⟨by simpa using h, ?_⟩
   simpa [X.words] using h2
set_option maxRecDepth 100000 in
theorem word_x (w : World) (S : ByteArray) :
    Calls Tryz.prog 118 #[.string S] w fun e w' => e = .returned (.bool (X.word S.data.toList)) ∧ w = w' := by
  rcases X.word_cases S.data.toList with ⟨_, h | h | h | h | h | h | h | h | h | h⟩ | ⟨hw, h0, h1, h2, h3, h4, h5, h6, h7, h8, h9⟩
  · obtain rfl := bytes_ext h
    clear h
    go_enter Tryz.func118, Tryz.ntmps118
    go_wp2_with fail
    go_ret
    exact ⟨rfl, rfl⟩
  · obtain rfl := bytes_ext h
    clear h
    go_enter Tryz.func118, Tryz.ntmps118
    go_wp2_with fail
    go_ret
    exact ⟨rfl, rfl⟩
  · obtain rfl := bytes_ext h
    clear h
    go_enter Tryz.func118, Tryz.ntmps118
    go_wp2_with fail
    go_ret
    exact ⟨rfl, rfl⟩
  · obtain rfl := bytes_ext h
    clear h
    go_enter Tryz.func118, Tryz.ntmps118
    go_wp2_with fail
    go_ret
    exact ⟨rfl, rfl⟩
  · obtain rfl := bytes_ext h
    clear h
    go_enter Tryz.func118, Tryz.ntmps118
    go_wp2_with fail
    go_ret
    exact ⟨rfl, rfl⟩
  · obtain rfl := bytes_ext h
    clear h
    go_enter Tryz.func118, Tryz.ntmps118
    go_wp2_with fail
    go_ret
    exact ⟨rfl, rfl⟩
  · obtain rfl := bytes_ext h
    clear h
    go_enter Tryz.func118, Tryz.ntmps118
    go_wp2_with fail
    go_ret
    exact ⟨rfl, rfl⟩
  · obtain rfl := bytes_ext h
    clear h
    go_enter Tryz.func118, Tryz.ntmps118
    go_wp2_with fail
    go_ret
    exact ⟨rfl, rfl⟩
  · obtain rfl := bytes_ext h
    clear h
    go_enter Tryz.func118, Tryz.ntmps118
    go_wp2_with fail
    go_ret
    exact ⟨rfl, rfl⟩
  · obtain rfl := bytes_ext h
    clear h
    go_enter Tryz.func118, Tryz.ntmps118
    go_wp2_with fail
    go_ret
    exact ⟨rfl, rfl⟩
  ·
   rw [hw]
   clear hw
   replace h0 := toList_beq h0
   replace h1 := toList_beq h1
   replace h2 := toList_beq h2
   replace h3 := toList_beq h3
   replace h4 := toList_beq h4
   replace h5 := toList_beq h5
   replace h6 := toList_beq h6
   replace h7 := toList_beq h7
   replace h8 := toList_beq h8
   replace h9 := toList_beq h9
   go_enter Tryz.func118, Tryz.ntmps118
   go_wp2_with fail
   go_ret
   exact ⟨rfl, rfl⟩
theorem X.row_cases (c : UInt8) : (X.rowc c = true ∧ X.letter c = true) ∨ (X.rowc c = true ∧ X.letter c = false ∧ X.digit c = true) ∨ (X.rowc c = true ∧ X.letter c = false ∧ X.digit c = false ∧ ((c.toNat : Int) == 95) = true) ∨ (X.rowc c = false ∧ X.letter c = false ∧ X.digit c = false ∧ ((c.toNat : Int) == 95) = false) := by
 unfold X.rowc
 cases X.letter c
 · cases X.digit c
   · by_cases h : c.toNat = 95
     · exact .inr (.inr (.inl ⟨by simp [h], rfl, rfl, by simp [h]⟩))
     · exact .inr (.inr (.inr ⟨by simp [h], rfl, rfl, by simp; omega⟩))
   · exact .inr (.inl ⟨rfl, rfl, rfl⟩)
 · exact .inl ⟨rfl, rfl⟩
set_option maxRecDepth 100000 in
theorem row_x (w : World) (S : ByteArray) (hS : S.size ≤ 9223372036854775806) :
    Calls Tryz.prog 117 #[.string S] w fun e w' => e = .returned (.int .i64 (X.rowLen S.data.toList : Nat)) ∧ w = w' := by
  go_enter Tryz.func117, Tryz.ntmps117
  go_wp2_with fail
  go_loopw [3] (fun v3 wr => ∃ k : Nat, k ≤ S.size ∧ v3 = .int .i64 (k : Nat) ∧ (∀ j, j < k → X.rowc (S.data.toList.getD j 0) = true) ∧ w = wr) (fun v3 _ => S.size - (intOf v3).toNat)
  case atStart => exact ⟨0, by omega, rfl, fun j hj => by omega, rfl⟩
  case round =>
   obtain ⟨k, hk, rfl, hrow, rfl⟩ := hrel
   have HROW := Lib.hid hrow
   clear hrow
   by_cases hkn : k < S.size
   ·
    have hb := getD_byte hkn
    have HB := Lib.hid hb
    clear hb
    have d0 : decide ((k : Int) < S.size) = true := decide_eq_true (by omega)
    have hnext : X.rowc (S[k]'hkn) = true → ∀ j, j < k + 1 → X.rowc (S.data.toList.getD j 0) = true := fun h j hj => by
     rcases Nat.lt_or_ge j k with h1 | h1
     · exact HROW.out j h1
     · obtain rfl : j = k := by omega
       rw [HB.out]; exact h
    have hstop : X.rowc (S[k]'hkn) = false → X.rowLen S.data.toList = k := fun h =>
     X.rowLen_eq (by rw [size_list]; exact hk) HROW.out (.inr (by rw [HB.out]; exact h))
    have HN := Lib.hid hnext
    have HST := Lib.hid hstop
    clear hnext hstop
    rcases X.row_cases (S[k]'hkn) with ⟨hr, hl⟩ | ⟨hr, hl, hd⟩ | ⟨hr, hl, hd, hu⟩ | ⟨hr, hl, hd, hu⟩
    all_goals
     have HR := Lib.hid hr
     clear hr
     go_wp2_with (first
      | (go_at_call 116; refine (letter_x _ _).mono ?_; rintro e w2 ⟨rfl, rfl⟩; rw [hl])
      | (go_at_call 148; refine (digit_x _ _).mono ?_; rintro e w2 ⟨rfl, rfl⟩; rw [hd]))
    iterate 3
     · go_roundw
       case rel => exact ⟨k + 1, by omega, by go_num, HN.out HR.out, by trivial⟩
       case measure => simp [intOf]; omega
    · go_ret
      exact ⟨by rw [HST.out HR.out]; rfl, rfl⟩
   · obtain rfl : k = S.size := by omega
     have hstop : X.rowLen S.data.toList = S.size := X.rowLen_eq (by rw [size_list]; exact Nat.le_refl _) HROW.out (.inl (by rw [size_list]))
     have HST := Lib.hid hstop
     clear hstop
     go_wp2_with fail
     go_ret
     exact ⟨by rw [HST.out]; rfl, rfl⟩
theorem X.name_eq {S : ByteArray} (h : 0 < S.size) : X.name S.data.toList = (X.letter (S[0]'h) && (X.rowLen S.data.toList == S.size && (decide (S.size ≤ 24) && !X.word S.data.toList))) := by
 unfold X.name
 have h1 : S.data.toList ≠ [] := fun e => by have := size_list S; rw [e] at this; simp only [List.length_nil] at this; omega
 have h2 : S.data.toList.isEmpty = false := by cases hh : S.data.toList with | nil => exact absurd hh h1 | cons _ _ => rfl
 have h3 : S.data.toList.headD 0 = S[0]'h := by have := getD_byte h; cases hh : S.data.toList with | nil => exact absurd hh h1 | cons c l => rw [hh] at this; simpa [List.getD] using this
 rw [h2, h3, size_list]; rfl
set_option maxRecDepth 100000 in
set_option maxHeartbeats 1600000 in
theorem isname_x (w : World) (S : ByteArray) (hS : S.size ≤ 4611686018427387904) :
    Calls Tryz.prog 82 #[.string S] w fun e w' => e = .returned (.bool (X.name S.data.toList)) ∧ w = w' := by
  rcases Nat.eq_zero_or_pos S.size with h0 | h0
  · have e : S.data.toList = [] := List.eq_nil_of_length_eq_zero (by rw [size_list]; exact h0)
    obtain rfl := bytes_ext e
    go_enter Tryz.func82, Tryz.ntmps82
    go_wp2_with fail
    go_ret
    exact ⟨rfl, rfl⟩
  ·
   rw [X.name_eq h0]
   obtain ⟨hne, hne2⟩ := not_empty h0
   have h0i : (0 : Int) < S.size := by omega
   cases hl : X.letter (S[0]'h0)
   · go_enter Tryz.func82, Tryz.ntmps82
     go_wp2_with (go_at_call 116; refine (letter_x _ _).mono ?_; rintro e w2 ⟨rfl, rfl⟩; rw [hl])
     go_ret
     exact ⟨rfl, rfl⟩
   ·
    obtain ⟨R, hR⟩ : ∃ R, X.rowLen S.data.toList = R := ⟨_, rfl⟩
    by_cases hr : R = S.size
    ·
     subst hr
     obtain ⟨b1, hb1⟩ : ∃ b, decide ((S.size : Int) ≤ 24) = b := ⟨_, rfl⟩
     have hb2 : decide (S.size ≤ 24) = b1 := by rw [← hb1]; exact decide_eq_decide.2 (by omega)
     obtain ⟨b2, hw⟩ : ∃ b, X.word S.data.toList = b := ⟨_, rfl⟩
     rw [hR, hb2, hw]
     clear hb2
     cases b1
     · go_enter Tryz.func82, Tryz.ntmps82
       go_wp2_with (first
        | (go_at_call 116; refine (letter_x _ _).mono ?_; rintro e w2 ⟨rfl, rfl⟩; rw [hl])
        | (go_at_call 117; refine (row_x _ _ (by omega)).mono ?_; rintro e w2 ⟨rfl, rfl⟩; rw [hR]))
       go_ret
       exact ⟨by first | rfl | simp, rfl⟩
     · cases b2
       all_goals
        go_enter Tryz.func82, Tryz.ntmps82
        go_wp2_with (first
         | (go_at_call 116; refine (letter_x _ _).mono ?_; rintro e w2 ⟨rfl, rfl⟩; rw [hl])
         | (go_at_call 117; refine (row_x _ _ (by omega)).mono ?_; rintro e w2 ⟨rfl, rfl⟩; rw [hR])
         | (go_at_call 118; refine (word_x _ _).mono ?_; rintro e w2 ⟨rfl, rfl⟩; rw [hw]))
        go_ret
        exact ⟨by first | rfl | simp, rfl⟩
    ·
     have hri : ((R : Int) == S.size) = false := by simp; omega
     have hrn : (R == S.size) = false := by simpa using hr
     rw [hR, hrn]
     clear hr hrn
     go_enter Tryz.func82, Tryz.ntmps82
     go_wp2_with (first
      | (go_at_call 116; refine (letter_x _ _).mono ?_; rintro e w2 ⟨rfl, rfl⟩; rw [hl])
      | (go_at_call 117; refine (row_x _ _ (by omega)).mono ?_; rintro e w2 ⟨rfl, rfl⟩; rw [hR]))
     go_ret
     exact ⟨rfl, rfl⟩
end
end Go.Proofs.YthiadenmljbdaaaGreatDoor
