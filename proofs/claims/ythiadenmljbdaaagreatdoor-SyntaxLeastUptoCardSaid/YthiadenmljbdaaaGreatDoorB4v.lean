/-
  v: the parts SyntaxLeast of the proof.
-/
import Derived.Test.YthiadenmljbdaaaGreatDoorB37s
import Derived.Test.YthiadenmljbdaaaGreatDoorB3v
import Derived.Deep.RegionHeld3
import Derived.Test.YthiadenmljbdaaaGreatDoorB1v
section
namespace Go.Proofs.YthiadenmljbdaaaGreatDoor
open Go.RowKit
open Go.Shelf
namespace P
theorem opn_le (l : List UInt8) (i j : Nat) : opn l i j ≤ j := by
  unfold opn
  have h1 : ((l.drop i).take j).count 40 ≤ ((l.drop i).take j).length := List.count_le_length
  rw [List.length_take] at h1
  omega
end P
theorem u8_eq {c : UInt8} {n : Nat} (hn : n < 256) : c.toNat = n ↔ c = UInt8.ofNat n := by
  constructor
  · intro h
    apply UInt8.toNat_inj.1
    rw [h, UInt8.toNat_ofNat_of_lt' hn]
  · rintro rfl
    exact UInt8.toNat_ofNat_of_lt' hn
theorem cut_list {S : ByteArray} {i k : Nat} (hik : i < k) : (S.extract 0 i ++ S.extract (i + 1) k ++ S.extract (k + 1) S.size).data.toList = S.data.toList.take i ++ ((S.data.toList.drop (i + 1)).take (k - (i + 1)) ++ S.data.toList.drop (k + 1)) := by
  have h := X.sub_list (S := S) (a := i + 1) (k := k - (i + 1))
  rw [show i + 1 + (k - (i + 1)) = k by omega] at h
  simp only [ByteArray.data_append, Array.toList_append, ext_list, X.drop_list]
  rw [h, List.append_assoc]
theorem six_set {w : World} {b : Nat} {t : TypeId} {a0 a1 a2 a3 a4 a5 : Value} (h : Blk w b t #[a0, a1, a2, a3, a4, a5]) (u0 u1 u2 u3 u4 u5 : Value) :
    ∃ W, W = ((((((w.setCell ⟨b, 0, none⟩ u0).setCell ⟨b, 1, none⟩ u1).setCell ⟨b, 2, none⟩ u2).setCell ⟨b, 3, none⟩ u3).setCell ⟨b, 4, none⟩ u4).setCell ⟨b, 5, none⟩ u5) ∧ Blk W b t #[u0, u1, u2, u3, u4, u5] ∧ Fr w W (fun k => k = b) ∧ ∀ B w0, Below B w0 w → B ≤ b → Below B w0 W :=
  ⟨_, rfl, h.set6 u0 u1 u2 u3 u4 u5, fr6 w b u0 u1 u2 u3 u4 u5, fun _ _ hB hb => (((((hB.setCell hb _).setCell hb _).setCell hb _).setCell hb _).setCell hb _).setCell hb _⟩
theorem two_set {w : World} {b : Nat} {t : TypeId} {v0 v1 : Value} (h : Pair w b t v0 v1) (u0 u1 : Value) :
    ∃ W, W = (w.setCell ⟨b, 0, none⟩ u0).setCell ⟨b, 1, none⟩ u1 ∧ Pair W b t u0 u1 ∧ Fr w W (fun k => k = b) ∧ ∀ B w0, Below B w0 w → B ≤ b → Below B w0 W :=
  ⟨_, rfl, h.set u0 u1, ((Fr.refl w (fun k => k = b)).set (b := b) (.inl rfl) 0 u0).set (b := b) (.inl rfl) 1 u1, fun _ _ hB hb => (hB.setCell hb _).setCell hb _⟩
theorem in_far {w w' : World} {R : Nat → Prop} {b : Nat} {t : T} {v : Value} (h : T.In w R t v) (hf : Fr w w' (fun k => k = b)) (hb : ¬ R b) (hR : ∀ b, R b → b < w.heap.size) : T.In w' R t v :=
  h.fr (fun k hk => hf.block k (hR k hk) (fun e => hb ((show k = b from e) ▸ hk)))
theorem by40 {c : UInt8} : c.toNat = 40 ↔ c = 40 := u8_eq (n := 40) (by decide)
theorem by41 {c : UInt8} : c.toNat = 41 ↔ c = 41 := u8_eq (n := 41) (by decide)
set_option maxRecDepth 100000 in
set_option maxHeartbeats 8000000 in
theorem walkSyntaxLeast (t : T) (w : World) (R : Nat → Prop) (v : Value) (hN : t.bulk ≤ 1048576) (h : T.In w R t v) :
  Calls Tryz.prog 8 #[v] w fun e w' => e = .returned (.bool true) ∧ Below w.heap.size w w' := by
 have hIn := h
 obtain ⟨A1, c1, A2, c2, A3, c3, rfl, _⟩ := h.form
 obtain ⟨nm, hnm⟩ : ∃ x, t.nm = x := ⟨_, rfl⟩
 obtain ⟨ng, hng⟩ : ∃ x, t.ng = x := ⟨_, rfl⟩
 obtain ⟨n1, hn1⟩ : ∃ x, t.ns.length = x := ⟨_, rfl⟩
 obtain ⟨n2, hn2⟩ : ∃ x, t.mg.length = x := ⟨_, rfl⟩
 obtain ⟨n3, hn3⟩ : ∃ x, t.ks.length = x := ⟨_, rfl⟩
 obtain ⟨kk, hkk⟩ : ∃ x, t.k = x := ⟨_, rfl⟩
 rw [hkk, hnm, hng, hn1, hn2, hn3] at hIn ⊢
 clear h hnm hng hn1 hn2 hn3 hkk
 unfold tv at hIn ⊢
 have HWF := Lib.hid (P.wf_in (t := t) hIn)
 obtain ⟨W, hW, ps, hbW⟩ := made_blk w #[.int .i64 kk, .string nm, .slice A1 n1 c1, .bool ng, .slice A2 n2 c2, .slice A3 n3 c3] 28
 obtain ⟨g, hg⟩ : ∃ g, g = w.heap.size := ⟨_, rfl⟩
 have HI := Lib.hid (hIn.below hbW)
 rw [← hg] at ps
 have hV0 := Below.refl W.heap.size W
 have hbw := hbW
 clear hIn hbW
 obtain ⟨z, hz⟩ : ∃ z, t.chk = z := ⟨_, rfl⟩
 have HPR := Lib.hid (fun (w : World) (R : Nat → Prop) (v : Value) (h : T.In w R t v) => print_t t w R v hN h)
 by_cases h0 : z = 0
 ·
  subst h0
  obtain ⟨hwf, hd⟩ := HWF.out hz
  by_cases hl : 4096 < (P.said t).length
  ·
   have e1 : t.prS = [] := by unfold T.prS; rw [if_pos hz, if_pos hl]
   have e2 : t.prE = 40 := by unfold T.prE; rw [if_pos hz, if_pos hl]
   have HE := Lib.hid (And.intro e1 e2)
   clear e1 e2 hz hwf hd HWF hl
   go_enter Tryz.func8, Tryz.ntmps8
   go_upto_region 1 with (fail)
   rw [← hW, ← hg]
   clear hW hg
   obtain ⟨x0, x1, x2, x3, x4, x5⟩ := ps.six
   go_wp2_with (first
    | (go_at_call 18; refine (HPR.out _ R _ HI.out).mono ?_; rw [HE.out.1, HE.out.2]; rintro e w1 ⟨rfl, hb1⟩)
    | (go_at_call 15; refine (known_w _).mono ?_; rintro e w3 ⟨rfl, hb3⟩))
   go_ret
   exact ⟨rfl, below_on hbw (below_on (below_on hV0 hb1) hb3)⟩
  ·
   have e1 : t.prS = P.said t := by unfold T.prS; rw [if_pos hz, if_neg hl]
   have e2 : t.prE = 0 := by unfold T.prE; rw [if_pos hz, if_neg hl]
   have hsz : (⟨(P.said t).toArray⟩ : ByteArray).size ≤ 4096 := by simp only [ByteArray.size, List.size_toArray]; omega
   obtain ⟨S, hS⟩ : ∃ S : ByteArray, S = ⟨(P.said t).toArray⟩ := ⟨_, rfl⟩
   have hSl : S.data.toList = P.said t := by rw [hS]
   have HSL := Lib.hid hSl
   have HWT := Lib.hid hwf
   rw [← hS] at hsz
   have HE : Hid ((⟨t.prS.toArray⟩ : ByteArray) = S ∧ t.prE = 0) := Lib.hid ⟨by rw [e1, hS], e2⟩
   clear e1 e2 hz hwf hd HWF hl hS hSl
   obtain ⟨n, hn⟩ : ∃ n, S.size = n := ⟨_, rfl⟩
   have hlen : S.data.toList.length = n := by rw [P.size_list, hn]
   have HLEN := Lib.hid hlen
   have HNN := Lib.hid hn
   clear hlen
   go_enter Tryz.func8, Tryz.ntmps8
   go_upto_region 1 with (fail)
   rw [← hW, ← hg]
   clear hW hg
   obtain ⟨x0, x1, x2, x3, x4, x5⟩ := ps.six
   go_upto_region 4 with (go_at_call 18; refine (HPR.out _ R _ HI.out).mono ?_; rw [HE.out.1, HE.out.2]; rintro e w1 ⟨rfl, hb1⟩)
   have hV1 := below_on hV0 hb1
   clear x0 x1 x2 x3 x4 x5 hb1 hV0
   rw [hn] at hsz
   clear hn
   go_wp2_with fail
   go_loopg [5] (n + 1) (fun gk v5 wr => ∃ i : Nat, gk + i = n + 1 ∧ i ≤ n ∧ v5 = .int .i64 (i : Nat) ∧ Below W.heap.size W wr)
   case atStart => exact ⟨0, by omega, Nat.zero_le _, rfl, hV1⟩
   case round =>
    obtain ⟨i, hi, hin, rfl, hS⟩ := hrel
    by_cases hlt0 : i < n
    ·
     have hlt : i < S.size := by rw [HNN.out]; exact hlt0
     have hb := getD_byte hlt
     have HB := Lib.hid hb
     have i0 : (0 : Int) ≤ (i : Int) := by omega
     have i1 : (i : Int) < S.size := by omega
     have d1 : decide (i < S.size) = true := decide_eq_true hlt
     clear hb
     by_cases h40 : (S[i]'hlt).toNat = 40
     ·
      have hi40 : S.data.toList.getD i 0 = 40 := by rw [HB.out]; exact by40.1 h40
      have HI40 := Lib.hid hi40
      clear hi40
      go_wp2_with fail
      go_loopg [6, 7] (n + 1) (fun gk2 v6 v7 wq => ∃ k : Nat, gk2 + k = n + 1 + i ∧ i ≤ k ∧ k ≤ n ∧ v6 = .int .i64 (k : Nat) ∧ v7 = .int .i64 (P.opn S.data.toList i (k - i)) ∧ (k = i ∨ 1 ≤ P.opn S.data.toList i (k - i)) ∧ wq = wr)
      case atStart => exact ⟨i, rfl, Nat.le_refl _, hin, rfl, by rw [Nat.sub_self, P.opn_zero], .inl rfl, rfl⟩
      case round =>
       obtain ⟨k, hk, hik, hkn, rfl, rfl, ho1, rfl⟩ := hrel
       obtain ⟨o, ho⟩ : ∃ o, P.opn S.data.toList i (k - i) = o := ⟨_, rfl⟩
       have hol := P.opn_le S.data.toList i (k - i)
       have hoz : k = i → o = 0 := fun e => by subst e; rw [← ho, Nat.sub_self, P.opn_zero]
       rw [ho] at ho1 hol ⊢
       have hk0 : k < n := by
        rcases Nat.lt_or_ge k n with h | h
        ·
         exact h
        ·
         exfalso
         have e : i + (k - i) = S.data.toList.length := by rw [HLEN.out]; omega
         have := P.opn_end e (by rw [HSL.out]; exact (P.said_facts HWT.out).2 i)
         rw [ho] at this
         rcases ho1 with h1 | h1 <;> omega
       have hltk : k < S.size := by rw [HNN.out]; exact hk0
       have hsucc := P.opn_succ S.data.toList (i := i) (j := k - i) (by rw [HLEN.out]; omega)
       rw [ho, show i + (k - i) = k by omega, getD_byte hltk, show k - i + 1 = k + 1 - i by omega] at hsucc
       have ho0 : 0 ≤ o := by rcases ho1 with h1 | h1; rw [hoz h1]; exact Int.le_refl _; omega
       have ho3 : o ≤ 4096 := by omega
       have k0 : (0 : Int) ≤ (k : Int) := by omega
       have k1 : (k : Int) < S.size := by omega
       have d2 : decide (k < S.size) = true := decide_eq_true hltk
       have HOZ := Lib.hid hoz
       clear ho hol hoz
       by_cases b40 : (S[k]'hltk).toNat = 40
       ·
        rw [if_pos (by40.1 b40), if_neg (by rw [by40.1 b40]; decide)] at hsucc
        have hnx : P.opn S.data.toList i (k + 1 - i) = o + 1 := by omega
        have HNX := Lib.hid hnx
        have q1 : ((o + 1) == 0) = false := by simp; omega
        clear hsucc hnx
        go_wp2_with fail
        go_roundg (n + i - k)
        case measure => omega
        case rel => exact ⟨k + 1, by omega, by omega, by omega, by go_num, by rw [HNX.out], .inr (by rw [HNX.out]; omega), rfl⟩
       ·
        have q40 : (((S[k]'hltk).toNat : Int) == 40) = false := by simp; omega
        have hki : k ≠ i := fun e => by subst e; exact b40 h40
        have ho2 : 1 ≤ o := ho1.resolve_left hki
        rw [if_neg (fun e => b40 (by40.2 e))] at hsucc
        by_cases b41 : (S[k]'hltk).toNat = 41
        ·
         rw [if_pos (by41.1 b41)] at hsucc
         by_cases hone : o = 1
         ·
          subst hone
          have hk41 : S.data.toList.getD k 0 = 41 := by rw [getD_byte hltk]; exact by41.1 b41
          have HK41 := Lib.hid hk41
          have q2 : ((k : Int) == (S.size : Int)) = false := by simp; omega
          clear hsucc hk41
          go_upto_region 19 with (fail)
          have s0 : (0 : Int) ≤ (i : Int) := by omega
          have s1 : (i : Int) ≤ (S.size : Int) := by omega
          have s2 : (i : Int) + 1 ≤ (k : Int) := by omega
          have s3 : (k : Int) ≤ (S.size : Int) := by omega
          have s4 : (k : Int) + 1 ≤ (S.size : Int) := by omega
          have s5 : (0 : Int) ≤ (i : Int) + 1 := by omega
          have s6 : (0 : Int) ≤ (k : Int) + 1 := by omega
          have s7 : (k : Int) + 1 ≤ 9223372036854775807 := by omega
          have s8 : (i : Int) + 1 ≤ 9223372036854775807 := by omega
          have wi : IntKind.i64.wrap ((i : Int) + 1) = (i : Int) + 1 := wrap_nat (by omega) (by omega)
          have wk : IntKind.i64.wrap ((k : Int) + 1) = (k : Int) + 1 := wrap_nat (by omega) (by omega)
          have ti : ((i : Int) + 1).toNat = i + 1 := by omega
          have tk : ((k : Int) + 1).toNat = k + 1 := by omega
          have hss : S.size ≤ 4096 := by rw [HNN.out]; exact hsz
          have z1 : (S.extract 0 i).size = i := by rw [ByteArray.size_extract]; omega
          have z2 : (S.extract (i + 1) k).size = k - (i + 1) := by rw [ByteArray.size_extract]; omega
          have z3 : (S.extract (k + 1) S.size).size = S.size - (k + 1) := by rw [ByteArray.size_extract]; omega
          have c1' : ¬ (9223372036854775807 < i + (k - (i + 1))) := by omega
          have c2' : ¬ (9223372036854775807 < i + (k - (i + 1)) + (S.size - (k + 1))) := by omega
          refine wp_region_held_drew (S := fun _ => True) (by kernel_rfl) trivial (fun hHeld => ?_)
          refine take_at 0 (by kernel_rfl) (by kernel_rfl) (by kernel_rfl) (fun _ _ d _ _ h => by cases d <;> exact h) ⟨_, rfl⟩ (by assumption) (fun o ho => ?_)
          simp only [List.getElem?_toArray, List.getElem?_cons_zero, Option.some.injEq] at ho
          subst ho
          refine ⟨?_, ⟨by rfl, ?_⟩, ?_⟩
          rotate_left
          ·
           intro w hSw
           (try dsimp only at hSw)
           (go_simp; try with_reducible rfl)
          (try simp only [Act.put, List.setIfInBounds_toArray, List.set_cons_zero, List.set_cons_succ])
          refine take_at 1 (by kernel_rfl) (by kernel_rfl) (by kernel_rfl) (fun _ _ d _ _ h => by cases d <;> exact h) ⟨_, rfl⟩ (by assumption) (fun o ho => ?_)
          simp only [List.getElem?_toArray, List.getElem?_cons_succ, List.getElem?_cons_zero, Option.some.injEq] at ho
          subst ho
          refine ⟨?_, ⟨by rfl, ?_⟩, ?_⟩
          rotate_left
          ·
           intro w hSw
           (try dsimp only at hSw)
           (go_simp; try with_reducible rfl)
          (try simp only [Act.put, List.setIfInBounds_toArray, List.set_cons_zero, List.set_cons_succ])
          refine take_at 2 (by kernel_rfl) (by kernel_rfl) (by kernel_rfl) (fun _ _ d _ _ h => by cases d <;> exact h) ⟨_, rfl⟩ (by assumption) (fun o ho => ?_)
          simp only [List.getElem?_toArray, List.getElem?_cons_succ, List.getElem?_cons_zero, Option.some.injEq] at ho
          subst ho
          refine ⟨?_, ⟨by rfl, ?_⟩, ?_⟩
          rotate_left
          ·
           intro w hSw
           (try dsimp only at hSw)
           (go_simp; try with_reducible rfl)
          (try simp only [Act.put, List.setIfInBounds_toArray, List.set_cons_zero, List.set_cons_succ])
          refine take_at 3 (by kernel_rfl) (by kernel_rfl) (by kernel_rfl) (fun _ _ d _ _ h => by cases d <;> exact h) ⟨_, rfl⟩ (by assumption) (fun o ho => ?_)
          simp only [List.getElem?_toArray, List.getElem?_cons_succ, List.getElem?_cons_zero, Option.some.injEq] at ho
          subst ho
          refine ⟨?_, ⟨by rfl, ?_⟩, ?_⟩
          rotate_left
          ·
           intro w hSw
           (try dsimp only at hSw)
           (go_simp; try with_reducible rfl)
          (try simp only [Act.put, List.setIfInBounds_toArray, List.set_cons_zero, List.set_cons_succ])
          refine take_at 4 (by kernel_rfl) (by kernel_rfl) (by kernel_rfl) (fun _ _ d _ _ h => by cases d <;> exact h) ⟨_, rfl⟩ (by assumption) (fun o ho => ?_)
          simp only [List.getElem?_toArray, List.getElem?_cons_succ, List.getElem?_cons_zero, Option.some.injEq] at ho
          subst ho
          refine ⟨?_, ⟨by rfl, ?_⟩, ?_⟩
          rotate_left
          ·
           intro w hSw
           (try dsimp only at hSw)
           (go_simp; try with_reducible rfl)
          (try simp only [Act.put, List.setIfInBounds_toArray, List.set_cons_zero, List.set_cons_succ])
          refine take_at 5 (by kernel_rfl) (by kernel_rfl) (by kernel_rfl) (fun _ _ d _ _ h => by cases d <;> exact h) ⟨_, rfl⟩ (by assumption) (fun o ho => ?_)
          simp only [List.getElem?_toArray, List.getElem?_cons_succ, List.getElem?_cons_zero, Option.some.injEq] at ho
          subst ho
          refine ⟨?_, ⟨by rfl, ?_⟩, ?_⟩
          rotate_left
          ·
           intro w hSw
           (try dsimp only at hSw)
           (go_simp; try with_reducible rfl)
          (try simp only [Act.put, List.setIfInBounds_toArray, List.set_cons_zero, List.set_cons_succ])
          refine take_at 6 (by kernel_rfl) (by kernel_rfl) (by kernel_rfl) (fun _ _ d _ _ h => by cases d <;> exact h) ⟨_, rfl⟩ (by assumption) (fun o ho => ?_)
          simp only [List.getElem?_toArray, List.getElem?_cons_succ, List.getElem?_cons_zero, Option.some.injEq] at ho
          subst ho
          refine ⟨?_, ⟨by rfl, ?_⟩, ?_⟩
          rotate_left
          ·
           intro w hSw
           (try dsimp only at hSw)
           (go_simp; try with_reducible rfl)
          (try simp only [Act.put, List.setIfInBounds_toArray, List.set_cons_zero, List.set_cons_succ])
          refine take_at 7 (by kernel_rfl) (by kernel_rfl) (by kernel_rfl) (fun _ _ d _ _ h => by cases d <;> exact h) ⟨_, rfl⟩ (by assumption) (fun o ho => ?_)
          simp only [List.getElem?_toArray, List.getElem?_cons_succ, List.getElem?_cons_zero, Option.some.injEq] at ho
          subst ho
          refine ⟨?_, ⟨by rfl, ?_⟩, ?_⟩
          rotate_left
          ·
           intro w hSw
           (try dsimp only at hSw)
           (go_simp; try with_reducible rfl)
          (try simp only [Act.put, List.setIfInBounds_toArray, List.set_cons_zero, List.set_cons_succ])
          refine take_at 8 (by kernel_rfl) (by kernel_rfl) (by kernel_rfl) (fun _ _ d _ _ h => by cases d <;> exact h) ⟨_, rfl⟩ (by assumption) (fun o ho => ?_)
          simp only [List.getElem?_toArray, List.getElem?_cons_succ, List.getElem?_cons_zero, Option.some.injEq] at ho
          subst ho
          refine ⟨?_, ⟨by rfl, ?_⟩, ?_⟩
          rotate_left
          ·
           intro w hSw
           (try dsimp only at hSw)
           (go_simp; try with_reducible rfl)
          (try simp only [Act.put, List.setIfInBounds_toArray, List.set_cons_zero, List.set_cons_succ])
          refine take_at 9 (by kernel_rfl) (by kernel_rfl) (by kernel_rfl) (fun _ _ d _ _ h => by cases d <;> exact h) ⟨_, rfl⟩ (by assumption) (fun o ho => ?_)
          simp only [List.getElem?_toArray, List.getElem?_cons_succ, List.getElem?_cons_zero, Option.some.injEq] at ho
          subst ho
          refine ⟨?_, ⟨by rfl, ?_⟩, ?_⟩
          rotate_left
          ·
           intro w hSw
           (try dsimp only at hSw)
           (go_simp; try with_reducible rfl)
          (try simp only [Act.put, List.setIfInBounds_toArray, List.set_cons_zero, List.set_cons_succ])
          refine take_at 10 (by kernel_rfl) (by kernel_rfl) (by kernel_rfl) (fun _ _ d _ _ h => by cases d <;> exact h) ⟨_, rfl⟩ (by assumption) (fun o ho => ?_)
          simp only [List.getElem?_toArray, List.getElem?_cons_succ, List.getElem?_cons_zero, Option.some.injEq] at ho
          subst ho
          refine ⟨?_, ⟨by rfl, ?_⟩, ?_⟩
          rotate_left
          ·
           intro w hSw
           (try dsimp only at hSw)
           (go_simp; try with_reducible rfl)
          (try simp only [Act.put, List.setIfInBounds_toArray, List.set_cons_zero, List.set_cons_succ])
          refine take_at 11 (by kernel_rfl) (by kernel_rfl) (by kernel_rfl) (fun _ _ d _ _ h => by cases d <;> exact h) ⟨_, rfl⟩ (by assumption) (fun o ho => ?_)
          simp only [List.getElem?_toArray, List.getElem?_cons_succ, List.getElem?_cons_zero, Option.some.injEq] at ho
          subst ho
          refine ⟨?_, ⟨by rfl, ?_⟩, ?_⟩
          rotate_left
          ·
           intro w hSw
           (try dsimp only at hSw)
           (go_simp; try with_reducible rfl)
          (try simp only [Act.put, List.setIfInBounds_toArray, List.set_cons_zero, List.set_cons_succ])
          refine take_at 12 (by kernel_rfl) (by kernel_rfl) (by kernel_rfl) (fun _ _ d _ _ h => by cases d <;> exact h) ⟨_, rfl⟩ (by assumption) (fun o ho => ?_)
          simp only [List.getElem?_toArray, List.getElem?_cons_succ, List.getElem?_cons_zero, Option.some.injEq] at ho
          subst ho
          refine ⟨?_, ⟨by rfl, ?_⟩, ?_⟩
          rotate_left
          ·
           intro w hSw
           (try dsimp only at hSw)
           (go_simp; try with_reducible rfl)
          (try simp only [Act.put, List.setIfInBounds_toArray, List.set_cons_zero, List.set_cons_succ])
          refine take_at 13 (by kernel_rfl) (by kernel_rfl) (by kernel_rfl) (fun _ _ d _ _ h => by cases d <;> exact h) ⟨_, rfl⟩ (by assumption) (fun o ho => ?_)
          simp only [List.getElem?_toArray, List.getElem?_cons_succ, List.getElem?_cons_zero, Option.some.injEq] at ho
          subst ho
          refine ⟨?_, ⟨by rfl, ?_⟩, ?_⟩
          rotate_left
          ·
           intro w hSw
           (try dsimp only at hSw)
           (go_simp; try with_reducible rfl)
          (try simp only [Act.put, List.setIfInBounds_toArray, List.set_cons_zero, List.set_cons_succ])
          obtain ⟨V0, hV0e⟩ : ∃ x, x = wr.drew := ⟨_, rfl⟩
          have hU0 : Below W.heap.size W V0 := by rw [hV0e]; exact hS.drew
          rw [← hV0e]
          clear hV0e
          refine wpAnyH_ready (rs := [14, 18, 19]) (by kernel_rfl) (by simp) ?_
          refine ready_at 14 ⟨_, rfl⟩ (fun o ho K hK => ?_) ?_
          ·
           simp only [List.getElem?_toArray, List.getElem?_cons_succ, List.getElem?_cons_zero, Option.some.injEq] at ho
           subst ho
           go_simp
           go_at_call 12
           refine (parse_o _ _).mono ?_
           rintro e V1 ⟨uk, un, uA1, um1, ud1, ung, uA2, um2, ud2, uA3, um3, ud3, rfl, hin, hb1⟩
           refine hK.out _ _ trivial (fun _ => ?_)
           clear hK K
           (try simp only [Act.put, List.setIfInBounds_toArray, List.set_cons_zero, List.set_cons_succ])
           refine take_at 15 (by kernel_rfl) (by kernel_rfl) (by kernel_rfl) (fun _ _ d _ _ h => by cases d <;> exact h) ⟨_, rfl⟩ (by assumption) (fun o ho => ?_)
           simp only [List.getElem?_toArray, List.getElem?_cons_succ, List.getElem?_cons_zero, Option.some.injEq] at ho
           subst ho
           refine ⟨?_, ⟨by rfl, ?_⟩, ?_⟩
           rotate_left
           ·
            intro w hSw
            (try dsimp only at hSw)
            (go_simp; try with_reducible rfl)
           (try simp only [Act.put, List.setIfInBounds_toArray, List.set_cons_zero, List.set_cons_succ])
           refine take_at 16 (by kernel_rfl) (by kernel_rfl) (by kernel_rfl) (fun _ _ d _ _ h => by cases d <;> exact h) ⟨_, rfl⟩ (by assumption) (fun o ho => ?_)
           simp only [List.getElem?_toArray, List.getElem?_cons_succ, List.getElem?_cons_zero, Option.some.injEq] at ho
           subst ho
           refine ⟨?_, ⟨by rfl, ?_⟩, ?_⟩
           rotate_left
           ·
            intro w hSw
            (try dsimp only at hSw)
            (go_simp; try with_reducible rfl)
           (try simp only [Act.put, List.setIfInBounds_toArray, List.set_cons_zero, List.set_cons_succ])
           refine take_at 17 (by kernel_rfl) (by kernel_rfl) (by kernel_rfl) (fun _ _ d _ _ h => by cases d <;> exact h) ⟨_, rfl⟩ (by assumption) (fun o ho => ?_)
           simp only [List.getElem?_toArray, List.getElem?_cons_succ, List.getElem?_cons_zero, Option.some.injEq] at ho
           subst ho
           refine ⟨?_, ⟨by rfl, ?_⟩, ?_⟩
           rotate_left
           ·
            intro w hSw
            (try dsimp only at hSw)
            (go_simp; try with_reducible rfl)
           (try simp only [Act.put, List.setIfInBounds_toArray, List.set_cons_zero, List.set_cons_succ])
           have hU1 := below_on hU0 hb1
           obtain ⟨RR, hRR⟩ : ∃ R : Nat → Prop, (fun b => V0.heap.size ≤ b ∧ b < V1.heap.size) = R := ⟨_, rfl⟩
           rw [hRR] at hin
           have hc1 := hin
           have hRl : ∀ b, RR b → b < V1.heap.size := by rw [← hRR]; exact fun b h => h.2
           clear hRR hin
           refine wpAnyH_ready (rs := [18, 19]) (by kernel_rfl) (by simp) ?_
           refine ready_at 18 ⟨_, rfl⟩ (fun o ho K hK => ?_) ?_
           ·
            simp only [List.getElem?_toArray, List.getElem?_cons_succ, List.getElem?_cons_zero, Option.some.injEq] at ho
            subst ho
            go_simp
            refine hK.out _ _ trivial (fun _ => ?_)
            clear hK K
            (try simp only [Act.put, List.setIfInBounds_toArray, List.set_cons_zero, List.set_cons_succ])
            obtain ⟨V2, hW2, pu2, hb2⟩ := made_blk V1 #[.int .i64 0, .string ⟨#[]⟩, .slice none 0 0, .bool false, .slice none 0 0, .slice none 0 0] 28
            obtain ⟨gu, hgu⟩ : ∃ x, x = V1.heap.size := ⟨_, rfl⟩
            rw [← hW2, ← hgu]
            rw [← hgu] at pu2
            have lgu : W.heap.size ≤ gu := by have := hU1.size; omega
            have nru : ¬ RR gu := fun h => by have := hRl _ h; omega
            replace hRl : ∀ b, RR b → b < V2.heap.size := fun b h => Nat.lt_of_lt_of_le (hRl b h) hb2.size
            have hU2 := below_on hU1 hb2
            have hc2 := hc1.below hb2
            clear hW2 hgu
            refine wpAnyH_ready (rs := [19]) (by kernel_rfl) (by simp) ?_
            refine ready_at 19 ⟨_, rfl⟩ (fun o ho K hK => ?_) ?_
            ·
             simp only [List.getElem?_toArray, List.getElem?_cons_succ, List.getElem?_cons_zero, Option.some.injEq] at ho
             subst ho
             go_simp
             refine hK.out _ _ trivial (fun _ => ?_)
             clear hK K
             (try simp only [Act.put, List.setIfInBounds_toArray, List.set_cons_zero, List.set_cons_succ])
             obtain ⟨V3, hW3, pm3, hb3⟩ := made_blk V2 #[.int .i64 0, .int .i64 0] 31
             obtain ⟨gm, hgm⟩ : ∃ x, x = V2.heap.size := ⟨_, rfl⟩
             rw [← hW3, ← hgm]
             rw [← hgm] at pm3
             have lgm : W.heap.size ≤ gm := by have := hU2.size; omega
             have pm3 : Pair V3 gm 31 (.int .i64 0) (.int .i64 0) := pm3
             have hum : gu ≠ gm := by have := pu2.lt; omega
             have nrm : ¬ RR gm := fun h => by have := hRl _ h; omega
             replace hRl : ∀ b, RR b → b < V3.heap.size := fun b h => Nat.lt_of_lt_of_le (hRl b h) hb3.size
             have hU3 := below_on hU2 hb3
             have pu3 := pu2.below hb3
             have hc3 := hc2.below hb3
             clear hW3 hgm
             refine wpAnyH_ready (rs := [20]) (by kernel_rfl) (by simp) ?_
             refine ready_at 20 ⟨_, rfl⟩ (fun o ho K hK => ?_) AllReadyH.nil
             simp only [List.getElem?_toArray, List.getElem?_cons_succ, List.getElem?_cons_zero, Option.some.injEq] at ho
             subst ho
             obtain ⟨⟨q0, q1, q2, q3, q4, q5⟩, x0, x1, x2, x3, x4, x5⟩ := pu3.open6
             go_simp
             refine hK.out _ _ trivial (fun _ => ?_)
             clear hK K q0 q1 q2 q3 q4 q5 x0 x1 x2 x3 x4 x5
             (try simp only [Act.put, List.setIfInBounds_toArray, List.set_cons_zero, List.set_cons_succ])
             obtain ⟨V4, hW4, pu4, hf4, hB4⟩ := six_set pu3 (.int .i64 uk) (.string un) (.slice uA1 um1 ud1) (.bool ung) (.slice uA2 um2 ud2) (.slice uA3 um3 ud3)
             rw [← hW4]
             have pm4 : Pair V4 gm 31 (.int .i64 0) (.int .i64 0) := hf4.blk pm3 hum.symm
             have hc4 := in_far hc3 hf4 nru hRl
             have hU4 := hB4 _ _ hU3 lgu
             have hR4 : ∀ b, RR b → b < V4.heap.size := fun b h => Nat.lt_of_lt_of_le (hRl b h) hf4.size
             clear hW4 hB4 hf4 hc3 hU3 pm3 pu3 hRl
             refine wpAnyH_ready (rs := [21]) (by kernel_rfl) (by simp) ?_
             refine ready_at 21 ⟨_, rfl⟩ (fun o ho K hK => ?_) AllReadyH.nil
             simp only [List.getElem?_toArray, List.getElem?_cons_succ, List.getElem?_cons_zero, Option.some.injEq] at ho
             subst ho
             obtain ⟨n0, n1, m0, m1'⟩ := Pair.facts pm4
             go_simp
             refine hK.out _ _ trivial (fun _ => ?_)
             clear hK K n0 n1 m0 m1'
             (try simp only [Act.put, List.setIfInBounds_toArray, List.set_cons_zero, List.set_cons_succ])
             obtain ⟨J, hJ⟩ : ∃ J, S.extract 0 i ++ S.extract (i + 1) k ++ S.extract (k + 1) S.size = J := ⟨_, rfl⟩
             rw [hJ] at hc4 ⊢
             obtain ⟨cj, hcj⟩ : ∃ x, (P.res J).1 = x := ⟨_, rfl⟩
             obtain ⟨pj, hpj⟩ : ∃ x, (P.res J).2.1 = x := ⟨_, rfl⟩
             rw [hcj, hpj]
             obtain ⟨V5, hW5, pm5, hf5, hB5⟩ := two_set pm4 (.int .i64 (cj : Nat)) (.int .i64 (pj : Nat))
             rw [← hW5]
             have pu5 := hf5.blk pu4 hum
             have hc5 := Lib.hid (in_far hc4 hf5 nrm hR4)
             have hU5 := hB5 _ _ hU4 lgm
             clear hW5 hB5 hf5 hc4 hU4 pm4 pu4 hR4 hpj
             refine wpAnyH_done (by kernel_rfl) ?_ _
             obtain ⟨n0, n1, m0, m1'⟩ := Pair.facts pm5
             by_cases hz : cj = 0
             ·
              subst hz
              have HLAW := Lib.hid (P.least_law HWT.out HSL.out (i := i) (k := k) (by omega) (by rw [HLEN.out]; exact hk0) HI40.out HK41.out (by rw [← hJ]; exact cut_list (by omega)) (P.res_zero J hcj))
              have HBK := Lib.hid (Nat.le_trans (res_bulk J) (show 16384 ≤ 1048576 by decide))
              obtain ⟨y0, y1, y2, y3, y4, y5⟩ := pu5.six
              obtain ⟨x0, x1, x2, x3, x4, x5⟩ := (ps.below hU5).six
              clear hJ hcj
              go_wp2_with (first
               | (go_at_call 22; refine (same_w 1048576 t _ _ R RR _ _ hN HBK.out (Nat.le_refl _) (HI.out.below hU5) hc5.out).mono ?_; rw [HLAW.out]; rintro e V6 ⟨rfl, hb6⟩))
              go_roundg (n - i)
              case measure => omega
              case rel => exact ⟨i + 1, by omega, by omega, by go_num, below_on hU5 hb6⟩
             ·
              have z1' : ((cj : Int) == 0) = false := by simp; omega
              clear hJ hcj
              go_wp2_with fail
              go_roundg (n - i)
              case measure => omega
              case rel => exact ⟨i + 1, by omega, by omega, by go_num, hU5⟩
            exact AllReadyH.nil
           refine ready_at 19 ⟨_, rfl⟩ (fun o ho K hK => ?_) ?_
           ·
            simp only [List.getElem?_toArray, List.getElem?_cons_succ, List.getElem?_cons_zero, Option.some.injEq] at ho
            subst ho
            go_simp
            refine hK.out _ _ trivial (fun _ => ?_)
            clear hK K
            (try simp only [Act.put, List.setIfInBounds_toArray, List.set_cons_zero, List.set_cons_succ])
            obtain ⟨V2, hW2, pm2, hb2⟩ := made_blk V1 #[.int .i64 0, .int .i64 0] 31
            obtain ⟨gm, hgm⟩ : ∃ x, x = V1.heap.size := ⟨_, rfl⟩
            rw [← hW2, ← hgm]
            rw [← hgm] at pm2
            have lgm : W.heap.size ≤ gm := by have := hU1.size; omega
            have pm2 : Pair V2 gm 31 (.int .i64 0) (.int .i64 0) := pm2
            have nrm : ¬ RR gm := fun h => by have := hRl _ h; omega
            replace hRl : ∀ b, RR b → b < V2.heap.size := fun b h => Nat.lt_of_lt_of_le (hRl b h) hb2.size
            have hU2 := below_on hU1 hb2
            have hc2 := hc1.below hb2
            clear hW2 hgm
            refine wpAnyH_ready (rs := [18]) (by kernel_rfl) (by simp) ?_
            refine ready_at 18 ⟨_, rfl⟩ (fun o ho K hK => ?_) ?_
            ·
             simp only [List.getElem?_toArray, List.getElem?_cons_succ, List.getElem?_cons_zero, Option.some.injEq] at ho
             subst ho
             go_simp
             refine hK.out _ _ trivial (fun _ => ?_)
             clear hK K
             (try simp only [Act.put, List.setIfInBounds_toArray, List.set_cons_zero, List.set_cons_succ])
             obtain ⟨V3, hW3, pu3, hb3⟩ := made_blk V2 #[.int .i64 0, .string ⟨#[]⟩, .slice none 0 0, .bool false, .slice none 0 0, .slice none 0 0] 28
             obtain ⟨gu, hgu⟩ : ∃ x, x = V2.heap.size := ⟨_, rfl⟩
             rw [← hW3, ← hgu]
             rw [← hgu] at pu3
             have lgu : W.heap.size ≤ gu := by have := hU2.size; omega
             have hum : gu ≠ gm := by have := pm2.lt; omega
             have nru : ¬ RR gu := fun h => by have := hRl _ h; omega
             replace hRl : ∀ b, RR b → b < V3.heap.size := fun b h => Nat.lt_of_lt_of_le (hRl b h) hb3.size
             have hU3 := below_on hU2 hb3
             have pm3 := pm2.below hb3
             have hc3 := hc2.below hb3
             clear hW3 hgu
             refine wpAnyH_ready (rs := [20]) (by kernel_rfl) (by simp) ?_
             refine ready_at 20 ⟨_, rfl⟩ (fun o ho K hK => ?_) AllReadyH.nil
             simp only [List.getElem?_toArray, List.getElem?_cons_succ, List.getElem?_cons_zero, Option.some.injEq] at ho
             subst ho
             obtain ⟨⟨q0, q1, q2, q3, q4, q5⟩, x0, x1, x2, x3, x4, x5⟩ := pu3.open6
             go_simp
             refine hK.out _ _ trivial (fun _ => ?_)
             clear hK K q0 q1 q2 q3 q4 q5 x0 x1 x2 x3 x4 x5
             (try simp only [Act.put, List.setIfInBounds_toArray, List.set_cons_zero, List.set_cons_succ])
             obtain ⟨V4, hW4, pu4, hf4, hB4⟩ := six_set pu3 (.int .i64 uk) (.string un) (.slice uA1 um1 ud1) (.bool ung) (.slice uA2 um2 ud2) (.slice uA3 um3 ud3)
             rw [← hW4]
             have pm4 : Pair V4 gm 31 (.int .i64 0) (.int .i64 0) := hf4.blk pm3 hum.symm
             have hc4 := in_far hc3 hf4 nru hRl
             have hU4 := hB4 _ _ hU3 lgu
             have hR4 : ∀ b, RR b → b < V4.heap.size := fun b h => Nat.lt_of_lt_of_le (hRl b h) hf4.size
             clear hW4 hB4 hf4 hc3 hU3 pm3 pu3 hRl
             refine wpAnyH_ready (rs := [21]) (by kernel_rfl) (by simp) ?_
             refine ready_at 21 ⟨_, rfl⟩ (fun o ho K hK => ?_) AllReadyH.nil
             simp only [List.getElem?_toArray, List.getElem?_cons_succ, List.getElem?_cons_zero, Option.some.injEq] at ho
             subst ho
             obtain ⟨n0, n1, m0, m1'⟩ := Pair.facts pm4
             go_simp
             refine hK.out _ _ trivial (fun _ => ?_)
             clear hK K n0 n1 m0 m1'
             (try simp only [Act.put, List.setIfInBounds_toArray, List.set_cons_zero, List.set_cons_succ])
             obtain ⟨J, hJ⟩ : ∃ J, S.extract 0 i ++ S.extract (i + 1) k ++ S.extract (k + 1) S.size = J := ⟨_, rfl⟩
             rw [hJ] at hc4 ⊢
             obtain ⟨cj, hcj⟩ : ∃ x, (P.res J).1 = x := ⟨_, rfl⟩
             obtain ⟨pj, hpj⟩ : ∃ x, (P.res J).2.1 = x := ⟨_, rfl⟩
             rw [hcj, hpj]
             obtain ⟨V5, hW5, pm5, hf5, hB5⟩ := two_set pm4 (.int .i64 (cj : Nat)) (.int .i64 (pj : Nat))
             rw [← hW5]
             have pu5 := hf5.blk pu4 hum
             have hc5 := Lib.hid (in_far hc4 hf5 nrm hR4)
             have hU5 := hB5 _ _ hU4 lgm
             clear hW5 hB5 hf5 hc4 hU4 pm4 pu4 hR4 hpj
             refine wpAnyH_done (by kernel_rfl) ?_ _
             obtain ⟨n0, n1, m0, m1'⟩ := Pair.facts pm5
             by_cases hz : cj = 0
             ·
              subst hz
              have HLAW := Lib.hid (P.least_law HWT.out HSL.out (i := i) (k := k) (by omega) (by rw [HLEN.out]; exact hk0) HI40.out HK41.out (by rw [← hJ]; exact cut_list (by omega)) (P.res_zero J hcj))
              have HBK := Lib.hid (Nat.le_trans (res_bulk J) (show 16384 ≤ 1048576 by decide))
              obtain ⟨y0, y1, y2, y3, y4, y5⟩ := pu5.six
              obtain ⟨x0, x1, x2, x3, x4, x5⟩ := (ps.below hU5).six
              clear hJ hcj
              go_wp2_with (first
               | (go_at_call 22; refine (same_w 1048576 t _ _ R RR _ _ hN HBK.out (Nat.le_refl _) (HI.out.below hU5) hc5.out).mono ?_; rw [HLAW.out]; rintro e V6 ⟨rfl, hb6⟩))
              go_roundg (n - i)
              case measure => omega
              case rel => exact ⟨i + 1, by omega, by omega, by go_num, below_on hU5 hb6⟩
             ·
              have z1' : ((cj : Int) == 0) = false := by simp; omega
              clear hJ hcj
              go_wp2_with fail
              go_roundg (n - i)
              case measure => omega
              case rel => exact ⟨i + 1, by omega, by omega, by go_num, hU5⟩
            exact AllReadyH.nil
           exact AllReadyH.nil
          refine ready_at 18 ⟨_, rfl⟩ (fun o ho K hK => ?_) ?_
          ·
           simp only [List.getElem?_toArray, List.getElem?_cons_succ, List.getElem?_cons_zero, Option.some.injEq] at ho
           subst ho
           go_simp
           refine hK.out _ _ trivial (fun _ => ?_)
           clear hK K
           (try simp only [Act.put, List.setIfInBounds_toArray, List.set_cons_zero, List.set_cons_succ])
           obtain ⟨V1, hW1, pu1, hb1⟩ := made_blk V0 #[.int .i64 0, .string ⟨#[]⟩, .slice none 0 0, .bool false, .slice none 0 0, .slice none 0 0] 28
           obtain ⟨gu, hgu⟩ : ∃ x, x = V0.heap.size := ⟨_, rfl⟩
           rw [← hW1, ← hgu]
           rw [← hgu] at pu1
           have lgu : W.heap.size ≤ gu := by have := hU0.size; omega
           have hU1 := below_on hU0 hb1
           clear hW1 hgu
           refine wpAnyH_ready (rs := [14, 19]) (by kernel_rfl) (by simp) ?_
           refine ready_at 14 ⟨_, rfl⟩ (fun o ho K hK => ?_) ?_
           ·
            simp only [List.getElem?_toArray, List.getElem?_cons_succ, List.getElem?_cons_zero, Option.some.injEq] at ho
            subst ho
            go_simp
            go_at_call 12
            refine (parse_o _ _).mono ?_
            rintro e V2 ⟨uk, un, uA1, um1, ud1, ung, uA2, um2, ud2, uA3, um3, ud3, rfl, hin, hb2⟩
            refine hK.out _ _ trivial (fun _ => ?_)
            clear hK K
            (try simp only [Act.put, List.setIfInBounds_toArray, List.set_cons_zero, List.set_cons_succ])
            refine take_at 15 (by kernel_rfl) (by kernel_rfl) (by kernel_rfl) (fun _ _ d _ _ h => by cases d <;> exact h) ⟨_, rfl⟩ (by assumption) (fun o ho => ?_)
            simp only [List.getElem?_toArray, List.getElem?_cons_succ, List.getElem?_cons_zero, Option.some.injEq] at ho
            subst ho
            refine ⟨?_, ⟨by rfl, ?_⟩, ?_⟩
            rotate_left
            ·
             intro w hSw
             (try dsimp only at hSw)
             (go_simp; try with_reducible rfl)
            (try simp only [Act.put, List.setIfInBounds_toArray, List.set_cons_zero, List.set_cons_succ])
            refine take_at 16 (by kernel_rfl) (by kernel_rfl) (by kernel_rfl) (fun _ _ d _ _ h => by cases d <;> exact h) ⟨_, rfl⟩ (by assumption) (fun o ho => ?_)
            simp only [List.getElem?_toArray, List.getElem?_cons_succ, List.getElem?_cons_zero, Option.some.injEq] at ho
            subst ho
            refine ⟨?_, ⟨by rfl, ?_⟩, ?_⟩
            rotate_left
            ·
             intro w hSw
             (try dsimp only at hSw)
             (go_simp; try with_reducible rfl)
            (try simp only [Act.put, List.setIfInBounds_toArray, List.set_cons_zero, List.set_cons_succ])
            refine take_at 17 (by kernel_rfl) (by kernel_rfl) (by kernel_rfl) (fun _ _ d _ _ h => by cases d <;> exact h) ⟨_, rfl⟩ (by assumption) (fun o ho => ?_)
            simp only [List.getElem?_toArray, List.getElem?_cons_succ, List.getElem?_cons_zero, Option.some.injEq] at ho
            subst ho
            refine ⟨?_, ⟨by rfl, ?_⟩, ?_⟩
            rotate_left
            ·
             intro w hSw
             (try dsimp only at hSw)
             (go_simp; try with_reducible rfl)
            (try simp only [Act.put, List.setIfInBounds_toArray, List.set_cons_zero, List.set_cons_succ])
            have hU2 := below_on hU1 hb2
            have pu2 := pu1.below hb2
            obtain ⟨RR, hRR⟩ : ∃ R : Nat → Prop, (fun b => V1.heap.size ≤ b ∧ b < V2.heap.size) = R := ⟨_, rfl⟩
            rw [hRR] at hin
            have hc2 := hin
            have nru : ¬ RR gu := by rw [← hRR]; have := pu1.lt; intro h; omega
            have hRl : ∀ b, RR b → b < V2.heap.size := by rw [← hRR]; exact fun b h => h.2
            clear hRR hin
            refine wpAnyH_ready (rs := [19]) (by kernel_rfl) (by simp) ?_
            refine ready_at 19 ⟨_, rfl⟩ (fun o ho K hK => ?_) ?_
            ·
             simp only [List.getElem?_toArray, List.getElem?_cons_succ, List.getElem?_cons_zero, Option.some.injEq] at ho
             subst ho
             go_simp
             refine hK.out _ _ trivial (fun _ => ?_)
             clear hK K
             (try simp only [Act.put, List.setIfInBounds_toArray, List.set_cons_zero, List.set_cons_succ])
             obtain ⟨V3, hW3, pm3, hb3⟩ := made_blk V2 #[.int .i64 0, .int .i64 0] 31
             obtain ⟨gm, hgm⟩ : ∃ x, x = V2.heap.size := ⟨_, rfl⟩
             rw [← hW3, ← hgm]
             rw [← hgm] at pm3
             have lgm : W.heap.size ≤ gm := by have := hU2.size; omega
             have pm3 : Pair V3 gm 31 (.int .i64 0) (.int .i64 0) := pm3
             have hum : gu ≠ gm := by have := pu2.lt; omega
             have nrm : ¬ RR gm := fun h => by have := hRl _ h; omega
             replace hRl : ∀ b, RR b → b < V3.heap.size := fun b h => Nat.lt_of_lt_of_le (hRl b h) hb3.size
             have hU3 := below_on hU2 hb3
             have pu3 := pu2.below hb3
             have hc3 := hc2.below hb3
             clear hW3 hgm
             refine wpAnyH_ready (rs := [20]) (by kernel_rfl) (by simp) ?_
             refine ready_at 20 ⟨_, rfl⟩ (fun o ho K hK => ?_) AllReadyH.nil
             simp only [List.getElem?_toArray, List.getElem?_cons_succ, List.getElem?_cons_zero, Option.some.injEq] at ho
             subst ho
             obtain ⟨⟨q0, q1, q2, q3, q4, q5⟩, x0, x1, x2, x3, x4, x5⟩ := pu3.open6
             go_simp
             refine hK.out _ _ trivial (fun _ => ?_)
             clear hK K q0 q1 q2 q3 q4 q5 x0 x1 x2 x3 x4 x5
             (try simp only [Act.put, List.setIfInBounds_toArray, List.set_cons_zero, List.set_cons_succ])
             obtain ⟨V4, hW4, pu4, hf4, hB4⟩ := six_set pu3 (.int .i64 uk) (.string un) (.slice uA1 um1 ud1) (.bool ung) (.slice uA2 um2 ud2) (.slice uA3 um3 ud3)
             rw [← hW4]
             have pm4 : Pair V4 gm 31 (.int .i64 0) (.int .i64 0) := hf4.blk pm3 hum.symm
             have hc4 := in_far hc3 hf4 nru hRl
             have hU4 := hB4 _ _ hU3 lgu
             have hR4 : ∀ b, RR b → b < V4.heap.size := fun b h => Nat.lt_of_lt_of_le (hRl b h) hf4.size
             clear hW4 hB4 hf4 hc3 hU3 pm3 pu3 hRl
             refine wpAnyH_ready (rs := [21]) (by kernel_rfl) (by simp) ?_
             refine ready_at 21 ⟨_, rfl⟩ (fun o ho K hK => ?_) AllReadyH.nil
             simp only [List.getElem?_toArray, List.getElem?_cons_succ, List.getElem?_cons_zero, Option.some.injEq] at ho
             subst ho
             obtain ⟨n0, n1, m0, m1'⟩ := Pair.facts pm4
             go_simp
             refine hK.out _ _ trivial (fun _ => ?_)
             clear hK K n0 n1 m0 m1'
             (try simp only [Act.put, List.setIfInBounds_toArray, List.set_cons_zero, List.set_cons_succ])
             obtain ⟨J, hJ⟩ : ∃ J, S.extract 0 i ++ S.extract (i + 1) k ++ S.extract (k + 1) S.size = J := ⟨_, rfl⟩
             rw [hJ] at hc4 ⊢
             obtain ⟨cj, hcj⟩ : ∃ x, (P.res J).1 = x := ⟨_, rfl⟩
             obtain ⟨pj, hpj⟩ : ∃ x, (P.res J).2.1 = x := ⟨_, rfl⟩
             rw [hcj, hpj]
             obtain ⟨V5, hW5, pm5, hf5, hB5⟩ := two_set pm4 (.int .i64 (cj : Nat)) (.int .i64 (pj : Nat))
             rw [← hW5]
             have pu5 := hf5.blk pu4 hum
             have hc5 := Lib.hid (in_far hc4 hf5 nrm hR4)
             have hU5 := hB5 _ _ hU4 lgm
             clear hW5 hB5 hf5 hc4 hU4 pm4 pu4 hR4 hpj
             refine wpAnyH_done (by kernel_rfl) ?_ _
             obtain ⟨n0, n1, m0, m1'⟩ := Pair.facts pm5
             by_cases hz : cj = 0
             ·
              subst hz
              have HLAW := Lib.hid (P.least_law HWT.out HSL.out (i := i) (k := k) (by omega) (by rw [HLEN.out]; exact hk0) HI40.out HK41.out (by rw [← hJ]; exact cut_list (by omega)) (P.res_zero J hcj))
              have HBK := Lib.hid (Nat.le_trans (res_bulk J) (show 16384 ≤ 1048576 by decide))
              obtain ⟨y0, y1, y2, y3, y4, y5⟩ := pu5.six
              obtain ⟨x0, x1, x2, x3, x4, x5⟩ := (ps.below hU5).six
              clear hJ hcj
              go_wp2_with (first
               | (go_at_call 22; refine (same_w 1048576 t _ _ R RR _ _ hN HBK.out (Nat.le_refl _) (HI.out.below hU5) hc5.out).mono ?_; rw [HLAW.out]; rintro e V6 ⟨rfl, hb6⟩))
              go_roundg (n - i)
              case measure => omega
              case rel => exact ⟨i + 1, by omega, by omega, by go_num, below_on hU5 hb6⟩
             ·
              have z1' : ((cj : Int) == 0) = false := by simp; omega
              clear hJ hcj
              go_wp2_with fail
              go_roundg (n - i)
              case measure => omega
              case rel => exact ⟨i + 1, by omega, by omega, by go_num, hU5⟩
            exact AllReadyH.nil
           refine ready_at 19 ⟨_, rfl⟩ (fun o ho K hK => ?_) ?_
           ·
            simp only [List.getElem?_toArray, List.getElem?_cons_succ, List.getElem?_cons_zero, Option.some.injEq] at ho
            subst ho
            go_simp
            refine hK.out _ _ trivial (fun _ => ?_)
            clear hK K
            (try simp only [Act.put, List.setIfInBounds_toArray, List.set_cons_zero, List.set_cons_succ])
            obtain ⟨V2, hW2, pm2, hb2⟩ := made_blk V1 #[.int .i64 0, .int .i64 0] 31
            obtain ⟨gm, hgm⟩ : ∃ x, x = V1.heap.size := ⟨_, rfl⟩
            rw [← hW2, ← hgm]
            rw [← hgm] at pm2
            have lgm : W.heap.size ≤ gm := by have := hU1.size; omega
            have pm2 : Pair V2 gm 31 (.int .i64 0) (.int .i64 0) := pm2
            have hum : gu ≠ gm := by have := pu1.lt; omega
            have hU2 := below_on hU1 hb2
            have pu2 := pu1.below hb2
            clear hW2 hgm
            refine wpAnyH_ready (rs := [14]) (by kernel_rfl) (by simp) ?_
            refine ready_at 14 ⟨_, rfl⟩ (fun o ho K hK => ?_) ?_
            ·
             simp only [List.getElem?_toArray, List.getElem?_cons_succ, List.getElem?_cons_zero, Option.some.injEq] at ho
             subst ho
             go_simp
             go_at_call 12
             refine (parse_o _ _).mono ?_
             rintro e V3 ⟨uk, un, uA1, um1, ud1, ung, uA2, um2, ud2, uA3, um3, ud3, rfl, hin, hb3⟩
             refine hK.out _ _ trivial (fun _ => ?_)
             clear hK K
             (try simp only [Act.put, List.setIfInBounds_toArray, List.set_cons_zero, List.set_cons_succ])
             refine take_at 15 (by kernel_rfl) (by kernel_rfl) (by kernel_rfl) (fun _ _ d _ _ h => by cases d <;> exact h) ⟨_, rfl⟩ (by assumption) (fun o ho => ?_)
             simp only [List.getElem?_toArray, List.getElem?_cons_succ, List.getElem?_cons_zero, Option.some.injEq] at ho
             subst ho
             refine ⟨?_, ⟨by rfl, ?_⟩, ?_⟩
             rotate_left
             ·
              intro w hSw
              (try dsimp only at hSw)
              (go_simp; try with_reducible rfl)
             (try simp only [Act.put, List.setIfInBounds_toArray, List.set_cons_zero, List.set_cons_succ])
             refine take_at 16 (by kernel_rfl) (by kernel_rfl) (by kernel_rfl) (fun _ _ d _ _ h => by cases d <;> exact h) ⟨_, rfl⟩ (by assumption) (fun o ho => ?_)
             simp only [List.getElem?_toArray, List.getElem?_cons_succ, List.getElem?_cons_zero, Option.some.injEq] at ho
             subst ho
             refine ⟨?_, ⟨by rfl, ?_⟩, ?_⟩
             rotate_left
             ·
              intro w hSw
              (try dsimp only at hSw)
              (go_simp; try with_reducible rfl)
             (try simp only [Act.put, List.setIfInBounds_toArray, List.set_cons_zero, List.set_cons_succ])
             refine take_at 17 (by kernel_rfl) (by kernel_rfl) (by kernel_rfl) (fun _ _ d _ _ h => by cases d <;> exact h) ⟨_, rfl⟩ (by assumption) (fun o ho => ?_)
             simp only [List.getElem?_toArray, List.getElem?_cons_succ, List.getElem?_cons_zero, Option.some.injEq] at ho
             subst ho
             refine ⟨?_, ⟨by rfl, ?_⟩, ?_⟩
             rotate_left
             ·
              intro w hSw
              (try dsimp only at hSw)
              (go_simp; try with_reducible rfl)
             (try simp only [Act.put, List.setIfInBounds_toArray, List.set_cons_zero, List.set_cons_succ])
             have hU3 := below_on hU2 hb3
             have pu3 := pu2.below hb3
             have pm3 := pm2.below hb3
             obtain ⟨RR, hRR⟩ : ∃ R : Nat → Prop, (fun b => V2.heap.size ≤ b ∧ b < V3.heap.size) = R := ⟨_, rfl⟩
             rw [hRR] at hin
             have hc3 := hin
             have nru : ¬ RR gu := by rw [← hRR]; have := pu2.lt; intro h; omega
             have nrm : ¬ RR gm := by rw [← hRR]; have := pm2.lt; intro h; omega
             have hRl : ∀ b, RR b → b < V3.heap.size := by rw [← hRR]; exact fun b h => h.2
             clear hRR hin
             refine wpAnyH_ready (rs := [20]) (by kernel_rfl) (by simp) ?_
             refine ready_at 20 ⟨_, rfl⟩ (fun o ho K hK => ?_) AllReadyH.nil
             simp only [List.getElem?_toArray, List.getElem?_cons_succ, List.getElem?_cons_zero, Option.some.injEq] at ho
             subst ho
             obtain ⟨⟨q0, q1, q2, q3, q4, q5⟩, x0, x1, x2, x3, x4, x5⟩ := pu3.open6
             go_simp
             refine hK.out _ _ trivial (fun _ => ?_)
             clear hK K q0 q1 q2 q3 q4 q5 x0 x1 x2 x3 x4 x5
             (try simp only [Act.put, List.setIfInBounds_toArray, List.set_cons_zero, List.set_cons_succ])
             obtain ⟨V4, hW4, pu4, hf4, hB4⟩ := six_set pu3 (.int .i64 uk) (.string un) (.slice uA1 um1 ud1) (.bool ung) (.slice uA2 um2 ud2) (.slice uA3 um3 ud3)
             rw [← hW4]
             have pm4 : Pair V4 gm 31 (.int .i64 0) (.int .i64 0) := hf4.blk pm3 hum.symm
             have hc4 := in_far hc3 hf4 nru hRl
             have hU4 := hB4 _ _ hU3 lgu
             have hR4 : ∀ b, RR b → b < V4.heap.size := fun b h => Nat.lt_of_lt_of_le (hRl b h) hf4.size
             clear hW4 hB4 hf4 hc3 hU3 pm3 pu3 hRl
             refine wpAnyH_ready (rs := [21]) (by kernel_rfl) (by simp) ?_
             refine ready_at 21 ⟨_, rfl⟩ (fun o ho K hK => ?_) AllReadyH.nil
             simp only [List.getElem?_toArray, List.getElem?_cons_succ, List.getElem?_cons_zero, Option.some.injEq] at ho
             subst ho
             obtain ⟨n0, n1, m0, m1'⟩ := Pair.facts pm4
             go_simp
             refine hK.out _ _ trivial (fun _ => ?_)
             clear hK K n0 n1 m0 m1'
             (try simp only [Act.put, List.setIfInBounds_toArray, List.set_cons_zero, List.set_cons_succ])
             obtain ⟨J, hJ⟩ : ∃ J, S.extract 0 i ++ S.extract (i + 1) k ++ S.extract (k + 1) S.size = J := ⟨_, rfl⟩
             rw [hJ] at hc4 ⊢
             obtain ⟨cj, hcj⟩ : ∃ x, (P.res J).1 = x := ⟨_, rfl⟩
             obtain ⟨pj, hpj⟩ : ∃ x, (P.res J).2.1 = x := ⟨_, rfl⟩
             rw [hcj, hpj]
             obtain ⟨V5, hW5, pm5, hf5, hB5⟩ := two_set pm4 (.int .i64 (cj : Nat)) (.int .i64 (pj : Nat))
             rw [← hW5]
             have pu5 := hf5.blk pu4 hum
             have hc5 := Lib.hid (in_far hc4 hf5 nrm hR4)
             have hU5 := hB5 _ _ hU4 lgm
             clear hW5 hB5 hf5 hc4 hU4 pm4 pu4 hR4 hpj
             refine wpAnyH_done (by kernel_rfl) ?_ _
             obtain ⟨n0, n1, m0, m1'⟩ := Pair.facts pm5
             by_cases hz : cj = 0
             ·
              subst hz
              have HLAW := Lib.hid (P.least_law HWT.out HSL.out (i := i) (k := k) (by omega) (by rw [HLEN.out]; exact hk0) HI40.out HK41.out (by rw [← hJ]; exact cut_list (by omega)) (P.res_zero J hcj))
              have HBK := Lib.hid (Nat.le_trans (res_bulk J) (show 16384 ≤ 1048576 by decide))
              obtain ⟨y0, y1, y2, y3, y4, y5⟩ := pu5.six
              obtain ⟨x0, x1, x2, x3, x4, x5⟩ := (ps.below hU5).six
              clear hJ hcj
              go_wp2_with (first
               | (go_at_call 22; refine (same_w 1048576 t _ _ R RR _ _ hN HBK.out (Nat.le_refl _) (HI.out.below hU5) hc5.out).mono ?_; rw [HLAW.out]; rintro e V6 ⟨rfl, hb6⟩))
              go_roundg (n - i)
              case measure => omega
              case rel => exact ⟨i + 1, by omega, by omega, by go_num, below_on hU5 hb6⟩
             ·
              have z1' : ((cj : Int) == 0) = false := by simp; omega
              clear hJ hcj
              go_wp2_with fail
              go_roundg (n - i)
              case measure => omega
              case rel => exact ⟨i + 1, by omega, by omega, by go_num, hU5⟩
            exact AllReadyH.nil
           exact AllReadyH.nil
          refine ready_at 19 ⟨_, rfl⟩ (fun o ho K hK => ?_) ?_
          ·
           simp only [List.getElem?_toArray, List.getElem?_cons_succ, List.getElem?_cons_zero, Option.some.injEq] at ho
           subst ho
           go_simp
           refine hK.out _ _ trivial (fun _ => ?_)
           clear hK K
           (try simp only [Act.put, List.setIfInBounds_toArray, List.set_cons_zero, List.set_cons_succ])
           obtain ⟨V1, hW1, pm1, hb1⟩ := made_blk V0 #[.int .i64 0, .int .i64 0] 31
           obtain ⟨gm, hgm⟩ : ∃ x, x = V0.heap.size := ⟨_, rfl⟩
           rw [← hW1, ← hgm]
           rw [← hgm] at pm1
           have lgm : W.heap.size ≤ gm := by have := hU0.size; omega
           have pm1 : Pair V1 gm 31 (.int .i64 0) (.int .i64 0) := pm1
           have hU1 := below_on hU0 hb1
           clear hW1 hgm
           refine wpAnyH_ready (rs := [14, 18]) (by kernel_rfl) (by simp) ?_
           refine ready_at 14 ⟨_, rfl⟩ (fun o ho K hK => ?_) ?_
           ·
            simp only [List.getElem?_toArray, List.getElem?_cons_succ, List.getElem?_cons_zero, Option.some.injEq] at ho
            subst ho
            go_simp
            go_at_call 12
            refine (parse_o _ _).mono ?_
            rintro e V2 ⟨uk, un, uA1, um1, ud1, ung, uA2, um2, ud2, uA3, um3, ud3, rfl, hin, hb2⟩
            refine hK.out _ _ trivial (fun _ => ?_)
            clear hK K
            (try simp only [Act.put, List.setIfInBounds_toArray, List.set_cons_zero, List.set_cons_succ])
            refine take_at 15 (by kernel_rfl) (by kernel_rfl) (by kernel_rfl) (fun _ _ d _ _ h => by cases d <;> exact h) ⟨_, rfl⟩ (by assumption) (fun o ho => ?_)
            simp only [List.getElem?_toArray, List.getElem?_cons_succ, List.getElem?_cons_zero, Option.some.injEq] at ho
            subst ho
            refine ⟨?_, ⟨by rfl, ?_⟩, ?_⟩
            rotate_left
            ·
             intro w hSw
             (try dsimp only at hSw)
             (go_simp; try with_reducible rfl)
            (try simp only [Act.put, List.setIfInBounds_toArray, List.set_cons_zero, List.set_cons_succ])
            refine take_at 16 (by kernel_rfl) (by kernel_rfl) (by kernel_rfl) (fun _ _ d _ _ h => by cases d <;> exact h) ⟨_, rfl⟩ (by assumption) (fun o ho => ?_)
            simp only [List.getElem?_toArray, List.getElem?_cons_succ, List.getElem?_cons_zero, Option.some.injEq] at ho
            subst ho
            refine ⟨?_, ⟨by rfl, ?_⟩, ?_⟩
            rotate_left
            ·
             intro w hSw
             (try dsimp only at hSw)
             (go_simp; try with_reducible rfl)
            (try simp only [Act.put, List.setIfInBounds_toArray, List.set_cons_zero, List.set_cons_succ])
            refine take_at 17 (by kernel_rfl) (by kernel_rfl) (by kernel_rfl) (fun _ _ d _ _ h => by cases d <;> exact h) ⟨_, rfl⟩ (by assumption) (fun o ho => ?_)
            simp only [List.getElem?_toArray, List.getElem?_cons_succ, List.getElem?_cons_zero, Option.some.injEq] at ho
            subst ho
            refine ⟨?_, ⟨by rfl, ?_⟩, ?_⟩
            rotate_left
            ·
             intro w hSw
             (try dsimp only at hSw)
             (go_simp; try with_reducible rfl)
            (try simp only [Act.put, List.setIfInBounds_toArray, List.set_cons_zero, List.set_cons_succ])
            have hU2 := below_on hU1 hb2
            have pm2 := pm1.below hb2
            obtain ⟨RR, hRR⟩ : ∃ R : Nat → Prop, (fun b => V1.heap.size ≤ b ∧ b < V2.heap.size) = R := ⟨_, rfl⟩
            rw [hRR] at hin
            have hc2 := hin
            have nrm : ¬ RR gm := by rw [← hRR]; have := pm1.lt; intro h; omega
            have hRl : ∀ b, RR b → b < V2.heap.size := by rw [← hRR]; exact fun b h => h.2
            clear hRR hin
            refine wpAnyH_ready (rs := [18]) (by kernel_rfl) (by simp) ?_
            refine ready_at 18 ⟨_, rfl⟩ (fun o ho K hK => ?_) ?_
            ·
             simp only [List.getElem?_toArray, List.getElem?_cons_succ, List.getElem?_cons_zero, Option.some.injEq] at ho
             subst ho
             go_simp
             refine hK.out _ _ trivial (fun _ => ?_)
             clear hK K
             (try simp only [Act.put, List.setIfInBounds_toArray, List.set_cons_zero, List.set_cons_succ])
             obtain ⟨V3, hW3, pu3, hb3⟩ := made_blk V2 #[.int .i64 0, .string ⟨#[]⟩, .slice none 0 0, .bool false, .slice none 0 0, .slice none 0 0] 28
             obtain ⟨gu, hgu⟩ : ∃ x, x = V2.heap.size := ⟨_, rfl⟩
             rw [← hW3, ← hgu]
             rw [← hgu] at pu3
             have lgu : W.heap.size ≤ gu := by have := hU2.size; omega
             have hum : gu ≠ gm := by have := pm2.lt; omega
             have nru : ¬ RR gu := fun h => by have := hRl _ h; omega
             replace hRl : ∀ b, RR b → b < V3.heap.size := fun b h => Nat.lt_of_lt_of_le (hRl b h) hb3.size
             have hU3 := below_on hU2 hb3
             have pm3 := pm2.below hb3
             have hc3 := hc2.below hb3
             clear hW3 hgu
             refine wpAnyH_ready (rs := [20]) (by kernel_rfl) (by simp) ?_
             refine ready_at 20 ⟨_, rfl⟩ (fun o ho K hK => ?_) AllReadyH.nil
             simp only [List.getElem?_toArray, List.getElem?_cons_succ, List.getElem?_cons_zero, Option.some.injEq] at ho
             subst ho
             obtain ⟨⟨q0, q1, q2, q3, q4, q5⟩, x0, x1, x2, x3, x4, x5⟩ := pu3.open6
             go_simp
             refine hK.out _ _ trivial (fun _ => ?_)
             clear hK K q0 q1 q2 q3 q4 q5 x0 x1 x2 x3 x4 x5
             (try simp only [Act.put, List.setIfInBounds_toArray, List.set_cons_zero, List.set_cons_succ])
             obtain ⟨V4, hW4, pu4, hf4, hB4⟩ := six_set pu3 (.int .i64 uk) (.string un) (.slice uA1 um1 ud1) (.bool ung) (.slice uA2 um2 ud2) (.slice uA3 um3 ud3)
             rw [← hW4]
             have pm4 : Pair V4 gm 31 (.int .i64 0) (.int .i64 0) := hf4.blk pm3 hum.symm
             have hc4 := in_far hc3 hf4 nru hRl
             have hU4 := hB4 _ _ hU3 lgu
             have hR4 : ∀ b, RR b → b < V4.heap.size := fun b h => Nat.lt_of_lt_of_le (hRl b h) hf4.size
             clear hW4 hB4 hf4 hc3 hU3 pm3 pu3 hRl
             refine wpAnyH_ready (rs := [21]) (by kernel_rfl) (by simp) ?_
             refine ready_at 21 ⟨_, rfl⟩ (fun o ho K hK => ?_) AllReadyH.nil
             simp only [List.getElem?_toArray, List.getElem?_cons_succ, List.getElem?_cons_zero, Option.some.injEq] at ho
             subst ho
             obtain ⟨n0, n1, m0, m1'⟩ := Pair.facts pm4
             go_simp
             refine hK.out _ _ trivial (fun _ => ?_)
             clear hK K n0 n1 m0 m1'
             (try simp only [Act.put, List.setIfInBounds_toArray, List.set_cons_zero, List.set_cons_succ])
             obtain ⟨J, hJ⟩ : ∃ J, S.extract 0 i ++ S.extract (i + 1) k ++ S.extract (k + 1) S.size = J := ⟨_, rfl⟩
             rw [hJ] at hc4 ⊢
             obtain ⟨cj, hcj⟩ : ∃ x, (P.res J).1 = x := ⟨_, rfl⟩
             obtain ⟨pj, hpj⟩ : ∃ x, (P.res J).2.1 = x := ⟨_, rfl⟩
             rw [hcj, hpj]
             obtain ⟨V5, hW5, pm5, hf5, hB5⟩ := two_set pm4 (.int .i64 (cj : Nat)) (.int .i64 (pj : Nat))
             rw [← hW5]
             have pu5 := hf5.blk pu4 hum
             have hc5 := Lib.hid (in_far hc4 hf5 nrm hR4)
             have hU5 := hB5 _ _ hU4 lgm
             clear hW5 hB5 hf5 hc4 hU4 pm4 pu4 hR4 hpj
             refine wpAnyH_done (by kernel_rfl) ?_ _
             obtain ⟨n0, n1, m0, m1'⟩ := Pair.facts pm5
             by_cases hz : cj = 0
             ·
              subst hz
              have HLAW := Lib.hid (P.least_law HWT.out HSL.out (i := i) (k := k) (by omega) (by rw [HLEN.out]; exact hk0) HI40.out HK41.out (by rw [← hJ]; exact cut_list (by omega)) (P.res_zero J hcj))
              have HBK := Lib.hid (Nat.le_trans (res_bulk J) (show 16384 ≤ 1048576 by decide))
              obtain ⟨y0, y1, y2, y3, y4, y5⟩ := pu5.six
              obtain ⟨x0, x1, x2, x3, x4, x5⟩ := (ps.below hU5).six
              clear hJ hcj
              go_wp2_with (first
               | (go_at_call 22; refine (same_w 1048576 t _ _ R RR _ _ hN HBK.out (Nat.le_refl _) (HI.out.below hU5) hc5.out).mono ?_; rw [HLAW.out]; rintro e V6 ⟨rfl, hb6⟩))
              go_roundg (n - i)
              case measure => omega
              case rel => exact ⟨i + 1, by omega, by omega, by go_num, below_on hU5 hb6⟩
             ·
              have z1' : ((cj : Int) == 0) = false := by simp; omega
              clear hJ hcj
              go_wp2_with fail
              go_roundg (n - i)
              case measure => omega
              case rel => exact ⟨i + 1, by omega, by omega, by go_num, hU5⟩
            exact AllReadyH.nil
           refine ready_at 18 ⟨_, rfl⟩ (fun o ho K hK => ?_) ?_
           ·
            simp only [List.getElem?_toArray, List.getElem?_cons_succ, List.getElem?_cons_zero, Option.some.injEq] at ho
            subst ho
            go_simp
            refine hK.out _ _ trivial (fun _ => ?_)
            clear hK K
            (try simp only [Act.put, List.setIfInBounds_toArray, List.set_cons_zero, List.set_cons_succ])
            obtain ⟨V2, hW2, pu2, hb2⟩ := made_blk V1 #[.int .i64 0, .string ⟨#[]⟩, .slice none 0 0, .bool false, .slice none 0 0, .slice none 0 0] 28
            obtain ⟨gu, hgu⟩ : ∃ x, x = V1.heap.size := ⟨_, rfl⟩
            rw [← hW2, ← hgu]
            rw [← hgu] at pu2
            have lgu : W.heap.size ≤ gu := by have := hU1.size; omega
            have hum : gu ≠ gm := by have := pm1.lt; omega
            have hU2 := below_on hU1 hb2
            have pm2 := pm1.below hb2
            clear hW2 hgu
            refine wpAnyH_ready (rs := [14]) (by kernel_rfl) (by simp) ?_
            refine ready_at 14 ⟨_, rfl⟩ (fun o ho K hK => ?_) ?_
            ·
             simp only [List.getElem?_toArray, List.getElem?_cons_succ, List.getElem?_cons_zero, Option.some.injEq] at ho
             subst ho
             go_simp
             go_at_call 12
             refine (parse_o _ _).mono ?_
             rintro e V3 ⟨uk, un, uA1, um1, ud1, ung, uA2, um2, ud2, uA3, um3, ud3, rfl, hin, hb3⟩
             refine hK.out _ _ trivial (fun _ => ?_)
             clear hK K
             (try simp only [Act.put, List.setIfInBounds_toArray, List.set_cons_zero, List.set_cons_succ])
             refine take_at 15 (by kernel_rfl) (by kernel_rfl) (by kernel_rfl) (fun _ _ d _ _ h => by cases d <;> exact h) ⟨_, rfl⟩ (by assumption) (fun o ho => ?_)
             simp only [List.getElem?_toArray, List.getElem?_cons_succ, List.getElem?_cons_zero, Option.some.injEq] at ho
             subst ho
             refine ⟨?_, ⟨by rfl, ?_⟩, ?_⟩
             rotate_left
             ·
              intro w hSw
              (try dsimp only at hSw)
              (go_simp; try with_reducible rfl)
             (try simp only [Act.put, List.setIfInBounds_toArray, List.set_cons_zero, List.set_cons_succ])
             refine take_at 16 (by kernel_rfl) (by kernel_rfl) (by kernel_rfl) (fun _ _ d _ _ h => by cases d <;> exact h) ⟨_, rfl⟩ (by assumption) (fun o ho => ?_)
             simp only [List.getElem?_toArray, List.getElem?_cons_succ, List.getElem?_cons_zero, Option.some.injEq] at ho
             subst ho
             refine ⟨?_, ⟨by rfl, ?_⟩, ?_⟩
             rotate_left
             ·
              intro w hSw
              (try dsimp only at hSw)
              (go_simp; try with_reducible rfl)
             (try simp only [Act.put, List.setIfInBounds_toArray, List.set_cons_zero, List.set_cons_succ])
             refine take_at 17 (by kernel_rfl) (by kernel_rfl) (by kernel_rfl) (fun _ _ d _ _ h => by cases d <;> exact h) ⟨_, rfl⟩ (by assumption) (fun o ho => ?_)
             simp only [List.getElem?_toArray, List.getElem?_cons_succ, List.getElem?_cons_zero, Option.some.injEq] at ho
             subst ho
             refine ⟨?_, ⟨by rfl, ?_⟩, ?_⟩
             rotate_left
             ·
              intro w hSw
              (try dsimp only at hSw)
              (go_simp; try with_reducible rfl)
             (try simp only [Act.put, List.setIfInBounds_toArray, List.set_cons_zero, List.set_cons_succ])
             have hU3 := below_on hU2 hb3
             have pu3 := pu2.below hb3
             have pm3 := pm2.below hb3
             obtain ⟨RR, hRR⟩ : ∃ R : Nat → Prop, (fun b => V2.heap.size ≤ b ∧ b < V3.heap.size) = R := ⟨_, rfl⟩
             rw [hRR] at hin
             have hc3 := hin
             have nru : ¬ RR gu := by rw [← hRR]; have := pu2.lt; intro h; omega
             have nrm : ¬ RR gm := by rw [← hRR]; have := pm2.lt; intro h; omega
             have hRl : ∀ b, RR b → b < V3.heap.size := by rw [← hRR]; exact fun b h => h.2
             clear hRR hin
             refine wpAnyH_ready (rs := [20]) (by kernel_rfl) (by simp) ?_
             refine ready_at 20 ⟨_, rfl⟩ (fun o ho K hK => ?_) AllReadyH.nil
             simp only [List.getElem?_toArray, List.getElem?_cons_succ, List.getElem?_cons_zero, Option.some.injEq] at ho
             subst ho
             obtain ⟨⟨q0, q1, q2, q3, q4, q5⟩, x0, x1, x2, x3, x4, x5⟩ := pu3.open6
             go_simp
             refine hK.out _ _ trivial (fun _ => ?_)
             clear hK K q0 q1 q2 q3 q4 q5 x0 x1 x2 x3 x4 x5
             (try simp only [Act.put, List.setIfInBounds_toArray, List.set_cons_zero, List.set_cons_succ])
             obtain ⟨V4, hW4, pu4, hf4, hB4⟩ := six_set pu3 (.int .i64 uk) (.string un) (.slice uA1 um1 ud1) (.bool ung) (.slice uA2 um2 ud2) (.slice uA3 um3 ud3)
             rw [← hW4]
             have pm4 : Pair V4 gm 31 (.int .i64 0) (.int .i64 0) := hf4.blk pm3 hum.symm
             have hc4 := in_far hc3 hf4 nru hRl
             have hU4 := hB4 _ _ hU3 lgu
             have hR4 : ∀ b, RR b → b < V4.heap.size := fun b h => Nat.lt_of_lt_of_le (hRl b h) hf4.size
             clear hW4 hB4 hf4 hc3 hU3 pm3 pu3 hRl
             refine wpAnyH_ready (rs := [21]) (by kernel_rfl) (by simp) ?_
             refine ready_at 21 ⟨_, rfl⟩ (fun o ho K hK => ?_) AllReadyH.nil
             simp only [List.getElem?_toArray, List.getElem?_cons_succ, List.getElem?_cons_zero, Option.some.injEq] at ho
             subst ho
             obtain ⟨n0, n1, m0, m1'⟩ := Pair.facts pm4
             go_simp
             refine hK.out _ _ trivial (fun _ => ?_)
             clear hK K n0 n1 m0 m1'
             (try simp only [Act.put, List.setIfInBounds_toArray, List.set_cons_zero, List.set_cons_succ])
             obtain ⟨J, hJ⟩ : ∃ J, S.extract 0 i ++ S.extract (i + 1) k ++ S.extract (k + 1) S.size = J := ⟨_, rfl⟩
             rw [hJ] at hc4 ⊢
             obtain ⟨cj, hcj⟩ : ∃ x, (P.res J).1 = x := ⟨_, rfl⟩
             obtain ⟨pj, hpj⟩ : ∃ x, (P.res J).2.1 = x := ⟨_, rfl⟩
             rw [hcj, hpj]
             obtain ⟨V5, hW5, pm5, hf5, hB5⟩ := two_set pm4 (.int .i64 (cj : Nat)) (.int .i64 (pj : Nat))
             rw [← hW5]
             have pu5 := hf5.blk pu4 hum
             have hc5 := Lib.hid (in_far hc4 hf5 nrm hR4)
             have hU5 := hB5 _ _ hU4 lgm
             clear hW5 hB5 hf5 hc4 hU4 pm4 pu4 hR4 hpj
             refine wpAnyH_done (by kernel_rfl) ?_ _
             obtain ⟨n0, n1, m0, m1'⟩ := Pair.facts pm5
             by_cases hz : cj = 0
             ·
              subst hz
              have HLAW := Lib.hid (P.least_law HWT.out HSL.out (i := i) (k := k) (by omega) (by rw [HLEN.out]; exact hk0) HI40.out HK41.out (by rw [← hJ]; exact cut_list (by omega)) (P.res_zero J hcj))
              have HBK := Lib.hid (Nat.le_trans (res_bulk J) (show 16384 ≤ 1048576 by decide))
              obtain ⟨y0, y1, y2, y3, y4, y5⟩ := pu5.six
              obtain ⟨x0, x1, x2, x3, x4, x5⟩ := (ps.below hU5).six
              clear hJ hcj
              go_wp2_with (first
               | (go_at_call 22; refine (same_w 1048576 t _ _ R RR _ _ hN HBK.out (Nat.le_refl _) (HI.out.below hU5) hc5.out).mono ?_; rw [HLAW.out]; rintro e V6 ⟨rfl, hb6⟩))
              go_roundg (n - i)
              case measure => omega
              case rel => exact ⟨i + 1, by omega, by omega, by go_num, below_on hU5 hb6⟩
             ·
              have z1' : ((cj : Int) == 0) = false := by simp; omega
              clear hJ hcj
              go_wp2_with fail
              go_roundg (n - i)
              case measure => omega
              case rel => exact ⟨i + 1, by omega, by omega, by go_num, hU5⟩
            exact AllReadyH.nil
           exact AllReadyH.nil
          exact AllReadyH.nil
         ·
          have hnx : P.opn S.data.toList i (k + 1 - i) = o - 1 := by omega
          have HNX := Lib.hid hnx
          have q1 : ((o - 1) == 0) = false := by simp; omega
          clear hsucc hnx
          go_wp2_with fail
          go_roundg (n + i - k)
          case measure => omega
          case rel => exact ⟨k + 1, by omega, by omega, by omega, by go_num, by rw [HNX.out], .inr (by rw [HNX.out]; omega), rfl⟩
        ·
         rw [if_neg (fun e => b41 (by41.2 e))] at hsucc
         have q41 : (((S[k]'hltk).toNat : Int) == 41) = false := by simp; omega
         have hnx : P.opn S.data.toList i (k + 1 - i) = o := by omega
         have HNX := Lib.hid hnx
         have q1 : (o == 0) = false := by simp; omega
         clear hsucc hnx
         go_wp2_with fail
         go_roundg (n + i - k)
         case measure => omega
         case rel => exact ⟨k + 1, by omega, by omega, by omega, by go_num, by rw [HNX.out], .inr (by rw [HNX.out]; omega), rfl⟩
     ·
      have q0 : (((S[i]'hlt).toNat : Int) != 40) = true := by simp; omega
      go_wp2_with fail
      go_roundg (n - i)
      case measure => omega
      case rel => exact ⟨i + 1, by omega, by omega, by go_num, hS⟩
    ·
     obtain rfl : i = n := by omega
     have d1 : decide (i < S.size) = false := decide_eq_false (by rw [HNN.out]; exact hlt0)
     have d2 : decide ((i : Int) < S.size) = false := by simp; rw [HNN.out]; omega
     go_wp2_with (first
      | (go_at_call 15; refine (known_w _).mono ?_; rintro e w3 ⟨rfl, hb3⟩))
     go_ret
     exact ⟨rfl, below_on hbw (below_on hS hb3)⟩
 ·
  have e1 : t.prS = [] := by unfold T.prS; rw [if_neg (by rw [hz]; exact h0)]
  have e2 : t.prE = z := by unfold T.prE; rw [if_neg (by rw [hz]; exact h0), hz]
  have HE := Lib.hid (And.intro e1 e2)
  have hzz : (z != 0) = true := by simpa using h0
  clear e1 e2 hz HWF h0
  go_enter Tryz.func8, Tryz.ntmps8
  go_upto_region 1 with (fail)
  rw [← hW, ← hg]
  clear hW hg
  obtain ⟨x0, x1, x2, x3, x4, x5⟩ := ps.six
  go_wp2_with (first
   | (go_at_call 18; refine (HPR.out _ R _ HI.out).mono ?_; rw [HE.out.1, HE.out.2]; rintro e w1 ⟨rfl, hb1⟩)
   | (go_at_call 15; refine (known_w _).mono ?_; rintro e w3 ⟨rfl, hb3⟩))
  go_ret
  exact ⟨rfl, below_on hbw (below_on (below_on hV0 hb1) hb3)⟩
end Go.Proofs.YthiadenmljbdaaaGreatDoor
end
