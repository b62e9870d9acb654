/-
  q: the parts RWR RWC RW3.
-/
import Derived.Test.YthiadenmljbdaaaGreatDoorB31q
import Derived.Test.YthiadenmljbdaaaGreatDoorB27q
namespace Go.Proofs.YthiadenmljbdaaaGreatDoor
section
open Go.RowKit
open Go.Shelf
attribute [local go_sem] Oper.semAt_some
set_option maxHeartbeats 16000000 in
set_option maxRecDepth 100000 in
theorem rbody_row (kk : Int) (hkk : kk = 17 ∨ kk = 18 ∨ kk = 19 ∨ kk = 20) (wd : ByteArray) (f o : Nat) (hbt : ∀ w : World, Calls Tryz.prog 73 #[.int .i64 kk] w fun e w' => e = .returned (.tuple #[.string wd, .int .i64 (f : Nat), .int .i64 (o : Nat)]) ∧ w' = w) (hws : wd.size ≤ 7)
    (t : T) (hk : t.k = kk) (l : List T) (hl : t.ks = l) (hf : ∀ k ∈ l, FormR k) (h0 : 0 < l.length) (hbk : l.length ≤ 1048576) (hT : ∀ last, bodyB last t = formB f false (l.getD 0 t0) ++ rowB wd o last l.tail) : BodyR t := by
  intro B b full least last W0 w R v hnp hs hB h hR
  rw [hk] at hnp
  rw [hT last]
  have HBT := Lib.hid hbt
  have hz32 : (⟨#[32]⟩ : ByteArray).size = 1 := rfl
  have hcat1 : ¬ (9223372036854775807 < (⟨#[32]⟩ : ByteArray).size + wd.size) := by omega
  have hcat2 : ¬ (9223372036854775807 < 1 + wd.size) := by omega
  have hcat3 : ¬ (9223372036854775807 < 1 + wd.size + (⟨#[32]⟩ : ByteArray).size) := by omega
  have hcat4 : ¬ (9223372036854775807 < 1 + wd.size + 1) := by omega
  have HWL : Hid ((⟨#[32]⟩ ++ wd ++ ⟨#[32]⟩ : ByteArray).data.toList = 32 :: (wd.data.toList ++ [32])) := Lib.hid (by simp)
  have HWZ : Hid ((32 :: (wd.data.toList ++ [32])).length ≤ 70368744177664) := Lib.hid (by rw [List.length_cons, List.length_append, size_list]; simp only [List.length_cons, List.length_nil]; omega)
  clear hbt hws hz32 hT
  have HF := Lib.hid hf
  have HF0 := Lib.hid (hf (l.getD 0 t0) (by rw [List.getD_eq_getElem?_getD, List.getElem?_eq_getElem h0]; exact List.getElem_mem _))
  have hend := restB_n wd f o last l h0
  have hT1 := restB_0 wd f o last l h0
  have e0 : formB f false (l.getD 0 t0) ++ rowB wd o last l.tail = restB wd f o last l 0 := by unfold restB; rw [if_pos rfl]
  rw [e0]
  clear e0
  obtain ⟨TOT, hTOT⟩ : ∃ x, restB wd f o last l 0 = x := ⟨_, rfl⟩
  rw [hTOT] at hT1 ⊢
  have h := hs.In hR h
  obtain ⟨A1, c1, A2, c2, A3, c3, rfl, hks⟩ := T.In.kids h
  rw [hl] at hks ⊢
  obtain ⟨hc3, hks⟩ := hks
  obtain ⟨kb, ko, rfl, hRk, hI⟩ := hks h0
  have hkB := hR kb hRk
  obtain ⟨nm, hnm⟩ : ∃ x, t.nm = x := ⟨_, rfl⟩
  obtain ⟨ng, hng⟩ : ∃ x, t.ng = x := ⟨_, rfl⟩
  obtain ⟨n1, hn1⟩ : ∃ x, t.ns.length = x := ⟨_, rfl⟩
  obtain ⟨n2, hn2⟩ : ∃ x, t.mg.length = x := ⟨_, rfl⟩
  obtain ⟨n, hn⟩ : ∃ x, l.length = x := ⟨_, rfl⟩
  rw [hk, hnm, hng, hn1, hn2, hn]
  rw [hn] at h0 hbk hc3 hend
  have HN := Lib.hid hn
  have HE := Lib.hid hend
  have HT1 := Lib.hid hT1.symm
  clear hf hend hT1 hTOT h hks hnm hng hn1 hn2 hn hl hk
  obtain ⟨L, hL⟩ : ∃ x, P.level kk = x := ⟨_, rfl⟩
  have d1 : decide ((L : Int) < (least : Int)) = false := by simp; have : ¬ (P.level kk < least) := fun h => hnp (.inl h); rw [hL] at this; omega
  have d2 : decide (L < least) = false := by simp; have : ¬ (P.level kk < least) := fun h => hnp (.inl h); rw [hL] at this; omega
  have HLV := Lib.hid (level_k kk L hL)
  clear hnp hL
  unfold tv
  go_enter Tryz.func42, Tryz.ntmps42
  go_upto_region 1 with (fail)
  obtain ⟨W, hW, ps, hbW⟩ := made_blk w #[.int .i64 kk, .string nm, .slice A1 n1 c1, .bool ng, .slice A2 n2 c2, .slice (some ⟨kb, ko, none⟩) n c3] 28
  obtain ⟨g, hg⟩ : ∃ g, g = w.heap.size := ⟨_, rfl⟩
  have HS := Lib.hid (hs.below hB hbW)
  have hs0 := WS.of HS.out.wr
  have hB1 := Nat.le_trans hB hs.bl.size
  have hB2 : B ≤ W.heap.size := Nat.le_trans hB1 hbW.size
  have hgb : g ≠ b := by have := hs.lt; omega
  have hbB := hbW.mono hB1
  have HI := Lib.hid (T.Ins.keep (fun p _ hp hc => (hbB.cell (hR _ hp)).trans hc) (fun _ h => h) kb hRk l ko hI)
  have HR := Lib.hid hR
  clear hI hR
  rw [← hW, ← hg]
  rw [← hg] at ps
  clear hW hbW hg hs hB hB1 hbB
  obtain ⟨x0, x1, x2, x3, x4, x5⟩ := ps.six
  obtain ⟨v0, v1, v2, v3, v4, v5, h60, hkI0⟩ := T.Ins.get _ _ 0 HI.out (by rw [HN.out]; exact h0)
  have HI0 := Lib.hid hkI0
  have H60 := Lib.hid (show six W kb ko v0 v1 v2 v3 v4 v5 by simpa using h60)
  clear h60 hkI0
  rcases hkk with rfl | rfl | rfl | rfl
  all_goals
   cases last
   ·
    skip
    go_upto_region 35 with (go_at_call 69; refine (HLV.out _).mono ?_; rintro e w5 ⟨rfl, hw5⟩; obtain rfl := hw5.symm)
    go_upto_region 36 with (go_at_call 73; refine (HBT.out _).mono ?_; rintro e w6 ⟨rfl, hw6⟩; obtain rfl := hw6.symm)
    obtain ⟨y0, y1, y2, y3, y4, y5⟩ := H60.out
    go_upto_region 37 with (go_at_call 42; refine (HF0.out B b _ f false W _ R _ hs0 hB2 HI0.out HR.out).mono ?_; rintro e w1 ⟨rfl, hs1⟩; clear x0 x1 x2 x3 x4 x5; obtain ⟨x0, x1, x2, x3, x4, x5⟩ := (hs1.blk ps hgb).six)
    clear y0 y1 y2 y3 y4 y5
    go_wp2_with fail
    go_loopg [13] (n + 1) (fun gk v13 wr => ∃ (i : Nat) (wrt : List UInt8), gk + i = n + 2 ∧ 1 ≤ i ∧ i ≤ n ∧ v13 = .int .i64 (i : Nat) ∧ wrt ++ restB wd f o false l i = TOT ∧ WS B b (full ++ wrt) W wr)
    case atStart => exact ⟨1, formB f false (l.getD 0 t0), by omega, Nat.le_refl _, by omega, rfl, HT1.out, hs1⟩
    case round =>
     clear x0 x1 x2 x3 x4 x5
     obtain ⟨i, wrt, hi, hi1, hin, rfl, hw, hs2⟩ := hrel
     obtain ⟨x0, x1, x2, x3, x4, x5⟩ := (hs2.blk ps hgb).six
     by_cases hlt : i < n
     ·
      have hi3 : decide (i < n) = true := decide_eq_true hlt
      obtain ⟨v0, v1, v2, v3, v4, v5, h6, hkI⟩ := T.Ins.get _ _ _ HI.out (by rw [HN.out]; exact hlt)
      have hfk := HF.out (l.getD i t0) (by rw [List.getD_eq_getElem?_getD, List.getElem?_eq_getElem (by rw [HN.out]; exact hlt)]; exact List.getElem_mem _)
      have hre := restB_s wd f o false l i (by omega) (by rw [HN.out]; exact hlt)
      rw [HN.out] at hre
      obtain ⟨k, hk⟩ : ∃ k, l.getD i t0 = k := ⟨_, rfl⟩
      rw [hk] at hkI hfk hre
      simp only [Bool.false_and] at hre
      skip
      have H6 := Lib.hid h6
      have HKI := Lib.hid hkI
      have HFK := Lib.hid hfk
      have HLW : Hid (wrt ++ ((32 :: (wd.data.toList ++ [32])) ++ (formB o false k ++ restB wd f o false l (i + 1))) = TOT) := Lib.hid (by rw [← hre]; exact hw)
      clear h6 hkI hfk hw hre hk
      have hi0 : (0 : Int) ≤ i := by omega
      have hi4 : (i : Int) < n := by omega
      go_upto_region 41 with (go_at_call 70; refine (put_r _ _ HWL.out hs2 HWZ.out hB2).mono ?_; rintro e w3 ⟨rfl, hs3⟩; clear x0 x1 x2 x3 x4 x5; obtain ⟨x0, x1, x2, x3, x4, x5⟩ := (hs3.blk ps hgb).six; obtain ⟨y0, y1, y2, y3, y4, y5⟩ := hs3.six hkB H6.out)
      clear x0 x1 x2 x3 x4
      refine wp_region_held_drew (S := fun w' => w'.cell? ⟨g, 5, none⟩ = some (.slice (some ⟨kb, ko, none⟩) n c3) ∧ w'.cell? ⟨kb, ko + i * 6, none⟩ = some v0 ∧ w'.cell? ⟨kb, ko + i * 6 + 1, none⟩ = some v1 ∧ w'.cell? ⟨kb, ko + i * 6 + 2, none⟩ = some v2 ∧ w'.cell? ⟨kb, ko + i * 6 + 3, none⟩ = some v3 ∧ w'.cell? ⟨kb, ko + i * 6 + 4, none⟩ = some v4 ∧ w'.cell? ⟨kb, ko + i * 6 + 5, none⟩ = some v5) (by kernel_rfl) (by exact ⟨x5, y0, y1, y2, y3, y4, y5⟩) (fun hHeld => ?_)
      refine take_at 0 (by kernel_rfl) (by kernel_rfl) (by kernel_rfl) (fun _ _ d _ _ h => by cases d <;> exact h) ⟨_, rfl⟩ (by assumption) (fun o ho => ?_)
      simp only [zg1, zg3, zg4] at ho
      subst ho
      refine ⟨?_, ⟨by rfl, ?_⟩, ?_⟩
      rotate_left
      · intro w hSw
        (try dsimp only at hSw)
        obtain ⟨hS0, hS1, hS2, hS3, hS4, hS5, hS6⟩ := hSw
        (go_simp; try with_reducible rfl)
      (try simp only [Act.put, zs1, zs2, zs3])
      refine take_at 1 (by kernel_rfl) (by kernel_rfl) (by kernel_rfl) (fun _ _ d _ _ h => by cases d <;> exact h) ⟨_, rfl⟩ (by assumption) (fun o ho => ?_)
      simp only [zg1, zg2, zg3, zg4] at ho
      subst ho
      refine ⟨?_, ⟨by rfl, ?_⟩, ?_⟩
      rotate_left
      · intro w hSw
        (try dsimp only at hSw)
        obtain ⟨hS0, hS1, hS2, hS3, hS4, hS5, hS6⟩ := hSw
        (go_simp; try with_reducible rfl)
      (try simp only [Act.put, zs1, zs2, zs3])
      refine take_at 2 (by kernel_rfl) (by kernel_rfl) (by kernel_rfl) (fun _ _ d _ _ h => by cases d <;> exact h) ⟨_, rfl⟩ (by assumption) (fun o ho => ?_)
      simp only [zg1, zg2, zg3, zg4] at ho
      subst ho
      refine ⟨?_, ⟨by rfl, ?_⟩, ?_⟩
      rotate_left
      · intro w hSw
        (try dsimp only at hSw)
        obtain ⟨hS0, hS1, hS2, hS3, hS4, hS5, hS6⟩ := hSw
        (go_simp; try with_reducible rfl)
      (try simp only [Act.put, zs1, zs2, zs3])
      refine take_at 3 (by kernel_rfl) (by kernel_rfl) (by kernel_rfl) (fun _ _ d _ _ h => by cases d <;> exact h) ⟨_, rfl⟩ (by assumption) (fun o ho => ?_)
      simp only [zg1, zg2, zg3, zg4] at ho
      subst ho
      refine ⟨?_, ⟨by rfl, ?_⟩, ?_⟩
      rotate_left
      · intro w hSw
        (try dsimp only at hSw)
        obtain ⟨hS0, hS1, hS2, hS3, hS4, hS5, hS6⟩ := hSw
        (go_simp; try with_reducible rfl)
      (try simp only [Act.put, zs1, zs2, zs3])
      refine take_at 4 (by kernel_rfl) (by kernel_rfl) (by kernel_rfl) (fun _ _ d _ _ h => by cases d <;> exact h) ⟨_, rfl⟩ (by assumption) (fun o ho => ?_)
      simp only [zg1, zg2, zg3, zg4] at ho
      subst ho
      refine ⟨?_, ⟨by rfl, ?_⟩, ?_⟩
      rotate_left
      · intro w hSw
        (try dsimp only at hSw)
        obtain ⟨hS0, hS1, hS2, hS3, hS4, hS5, hS6⟩ := hSw
        (go_simp; try with_reducible rfl)
      (try simp only [Act.put, zs1, zs2, zs3])
      refine take_at 5 (by kernel_rfl) (by kernel_rfl) (by kernel_rfl) (fun _ _ d _ _ h => by cases d <;> exact h) ⟨_, rfl⟩ (by assumption) (fun o ho => ?_)
      simp only [zg1, zg2, zg3, zg4] at ho
      subst ho
      refine ⟨?_, ⟨by rfl, ?_⟩, ?_⟩
      rotate_left
      · intro w hSw
        (try dsimp only at hSw)
        obtain ⟨hS0, hS1, hS2, hS3, hS4, hS5, hS6⟩ := hSw
        (go_simp; try with_reducible rfl)
      (try simp only [Act.put, zs1, zs2, zs3])
      refine take_at 6 (by kernel_rfl) (by kernel_rfl) (by kernel_rfl) (fun _ _ d _ _ h => by cases d <;> exact h) ⟨_, rfl⟩ (by assumption) (fun o ho => ?_)
      simp only [zg1, zg2, zg3, zg4] at ho
      subst ho
      refine ⟨?_, ⟨by rfl, ?_⟩, ?_⟩
      rotate_left
      · intro w hSw
        (try dsimp only at hSw)
        obtain ⟨hS0, hS1, hS2, hS3, hS4, hS5, hS6⟩ := hSw
        (go_simp; try with_reducible rfl)
      (try simp only [Act.put, zs1, zs2, zs3])
      refine take_at 7 (by kernel_rfl) (by kernel_rfl) (by kernel_rfl) (fun _ _ d _ _ h => by cases d <;> exact h) ⟨_, rfl⟩ (by assumption) (fun o ho => ?_)
      simp only [zg1, zg2, zg3, zg4] at ho
      subst ho
      refine ⟨?_, ⟨by rfl, ?_⟩, ?_⟩
      rotate_left
      · intro w hSw
        (try dsimp only at hSw)
        obtain ⟨hS0, hS1, hS2, hS3, hS4, hS5, hS6⟩ := hSw
        (go_simp; try with_reducible rfl)
      (try simp only [Act.put, zs1, zs2, zs3])
      refine take_at 8 (by kernel_rfl) (by kernel_rfl) (by kernel_rfl) (fun _ _ d _ _ h => by cases d <;> exact h) ⟨_, rfl⟩ (by assumption) (fun o ho => ?_)
      simp only [zg1, zg2, zg3, zg4] at ho
      subst ho
      refine ⟨?_, ⟨by rfl, ?_⟩, ?_⟩
      rotate_left
      · intro w hSw
        (try dsimp only at hSw)
        obtain ⟨hS0, hS1, hS2, hS3, hS4, hS5, hS6⟩ := hSw
        (go_simp; try with_reducible rfl)
      (try simp only [Act.put, zs1, zs2, zs3])
      refine skip_at 9 (by kernel_rfl) (by kernel_rfl) (by kernel_rfl) (fun _ _ d _ _ h => by cases d <;> exact h) ⟨_, rfl⟩ (by assumption) (fun o ho => ?_)
      simp only [zg1, zg2, zg3, zg4] at ho
      subst ho
      refine ⟨by rfl, ?_⟩
      (try simp only [Act.put, zs1, zs2, zs3])
      refine skip_at 10 (by kernel_rfl) (by kernel_rfl) (by kernel_rfl) (fun _ _ d _ _ h => by cases d <;> exact h) ⟨_, rfl⟩ (by assumption) (fun o ho => ?_)
      simp only [zg1, zg2, zg3, zg4] at ho
      subst ho
      refine ⟨by rfl, ?_⟩
      (try simp only [Act.put, zs1, zs2, zs3])
      refine skip_at 11 (by kernel_rfl) (by kernel_rfl) (by kernel_rfl) (fun _ _ d _ _ h => by cases d <;> exact h) ⟨_, rfl⟩ (by assumption) (fun o ho => ?_)
      simp only [zg1, zg2, zg3, zg4] at ho
      subst ho
      refine ⟨by rfl, ?_⟩
      (try simp only [Act.put, zs1, zs2, zs3])
      refine skip_at 12 (by kernel_rfl) (by kernel_rfl) (by kernel_rfl) (fun _ _ d _ _ h => by cases d <;> exact h) ⟨_, rfl⟩ (by assumption) (fun o ho => ?_)
      simp only [zg1, zg2, zg3, zg4] at ho
      subst ho
      refine ⟨by rfl, ?_⟩
      (try simp only [Act.put, zs1, zs2, zs3])
      refine skip_at 13 (by kernel_rfl) (by kernel_rfl) (by kernel_rfl) (fun _ _ d _ _ h => by cases d <;> exact h) ⟨_, rfl⟩ (by assumption) (fun o ho => ?_)
      simp only [zg1, zg2, zg3, zg4] at ho
      subst ho
      refine ⟨by rfl, ?_⟩
      (try simp only [Act.put, zs1, zs2, zs3])
      refine skip_at 14 (by kernel_rfl) (by kernel_rfl) (by kernel_rfl) (fun _ _ d _ _ h => by cases d <;> exact h) ⟨_, rfl⟩ (by assumption) (fun o ho => ?_)
      simp only [zg1, zg2, zg3, zg4] at ho
      subst ho
      refine ⟨by rfl, ?_⟩
      (try simp only [Act.put, zs1, zs2, zs3])
      refine take_at 15 (by kernel_rfl) (by kernel_rfl) (by kernel_rfl) (fun _ _ d _ _ h => by cases d <;> exact h) ⟨_, rfl⟩ (by assumption) (fun o ho => ?_)
      simp only [zg1, zg2, zg3, zg4] at ho
      subst ho
      refine ⟨?_, ⟨by rfl, ?_⟩, ?_⟩
      rotate_left
      · intro w hSw
        (try dsimp only at hSw)
        obtain ⟨hS0, hS1, hS2, hS3, hS4, hS5, hS6⟩ := hSw
        (go_simp; try with_reducible rfl)
      (try simp only [Act.put, zs1, zs2, zs3])
      refine wpAnyH_ready (rs := [16]) (by kernel_rfl) (by simp) ?_
      refine ready_at 16 ⟨_, rfl⟩ (fun o ho K hK => ?_) AllReadyH.nil
      simp only [zg1, zg2, zg3, zg4] at ho
      subst ho
      go_simp
      go_at_call 42
      refine (HFK.out B b _ o false W _ R _ hs3.drew hB2 HKI.out HR.out).mono ?_
      rintro e w4 ⟨rfl, hs4⟩
      refine hK.out _ _ ?_ (fun hHeld2 => ?_)
      · obtain ⟨_, _, _, _, _, z5⟩ := (hs4.blk ps hgb).six
        obtain ⟨z0, z1, z2, z3, z4, z6⟩ := hs4.six hkB H6.out
        exact ⟨z5, z0, z1, z2, z3, z4, z6⟩
      clear hK K hHeld2 hHeld x5 y0 y1 y2 y3 y4 y5
      (try simp only [zs1, zs2, zs3])
      refine wpAnyH_done (by kernel_rfl) ?_ _
      go_wp2_with fail
      go_roundg (n + 1 - i)
      case measure => omega
      case rel => exact ⟨i + 1, wrt ++ ((32 :: (wd.data.toList ++ [32])) ++ formB o false k), by omega, by omega, by omega, by go_num, by rw [List.append_assoc, List.append_assoc]; exact HLW.out, by rw [List.append_assoc, List.append_assoc] at hs4; exact hs4⟩
     · have hi3 : decide (i < n) = false := decide_eq_false hlt
       obtain rfl : i = n := by omega
       rw [HE.out, List.append_nil] at hw
       subst hw
       go_wp2_with fail
       go_end0
       exact ⟨rfl, HS.out.join hs2⟩
   ·
    skip
    go_upto_region 35 with (go_at_call 69; refine (HLV.out _).mono ?_; rintro e w5 ⟨rfl, hw5⟩; obtain rfl := hw5.symm)
    go_upto_region 36 with (go_at_call 73; refine (HBT.out _).mono ?_; rintro e w6 ⟨rfl, hw6⟩; obtain rfl := hw6.symm)
    obtain ⟨y0, y1, y2, y3, y4, y5⟩ := H60.out
    go_upto_region 37 with (go_at_call 42; refine (HF0.out B b _ f false W _ R _ hs0 hB2 HI0.out HR.out).mono ?_; rintro e w1 ⟨rfl, hs1⟩; clear x0 x1 x2 x3 x4 x5; obtain ⟨x0, x1, x2, x3, x4, x5⟩ := (hs1.blk ps hgb).six)
    clear y0 y1 y2 y3 y4 y5
    go_wp2_with fail
    go_loopg [13] (n + 1) (fun gk v13 wr => ∃ (i : Nat) (wrt : List UInt8), gk + i = n + 2 ∧ 1 ≤ i ∧ i ≤ n ∧ v13 = .int .i64 (i : Nat) ∧ wrt ++ restB wd f o true l i = TOT ∧ WS B b (full ++ wrt) W wr)
    case atStart => exact ⟨1, formB f false (l.getD 0 t0), by omega, Nat.le_refl _, by omega, rfl, HT1.out, hs1⟩
    case round =>
     clear x0 x1 x2 x3 x4 x5
     obtain ⟨i, wrt, hi, hi1, hin, rfl, hw, hs2⟩ := hrel
     obtain ⟨x0, x1, x2, x3, x4, x5⟩ := (hs2.blk ps hgb).six
     by_cases hlt : i < n
     ·
      have hi3 : decide (i < n) = true := decide_eq_true hlt
      obtain ⟨v0, v1, v2, v3, v4, v5, h6, hkI⟩ := T.Ins.get _ _ _ HI.out (by rw [HN.out]; exact hlt)
      have hfk := HF.out (l.getD i t0) (by rw [List.getD_eq_getElem?_getD, List.getElem?_eq_getElem (by rw [HN.out]; exact hlt)]; exact List.getElem_mem _)
      have hre := restB_s wd f o true l i (by omega) (by rw [HN.out]; exact hlt)
      rw [HN.out] at hre
      obtain ⟨k, hk⟩ : ∃ k, l.getD i t0 = k := ⟨_, rfl⟩
      rw [hk] at hkI hfk hre
      simp only [Bool.true_and] at hre
      obtain ⟨q, hq⟩ : ∃ q, decide (i + 1 = n) = q := ⟨_, rfl⟩
      rw [hq] at hre
      have d2 : ((i : Int) == (n : Int) - 1) = q := by rw [← hq, Bool.eq_iff_iff, beq_iff_eq, decide_eq_true_eq]; omega
      have wa : IntKind.i64.wrap ((n : Int) - 1) = (n : Int) - 1 := wrap_nat (by omega) (by omega)
      clear hq
      have H6 := Lib.hid h6
      have HKI := Lib.hid hkI
      have HFK := Lib.hid hfk
      have HLW : Hid (wrt ++ ((32 :: (wd.data.toList ++ [32])) ++ (formB o q k ++ restB wd f o true l (i + 1))) = TOT) := Lib.hid (by rw [← hre]; exact hw)
      clear h6 hkI hfk hw hre hk
      have hi0 : (0 : Int) ≤ i := by omega
      have hi4 : (i : Int) < n := by omega
      go_upto_region 41 with (go_at_call 70; refine (put_r _ _ HWL.out hs2 HWZ.out hB2).mono ?_; rintro e w3 ⟨rfl, hs3⟩; clear x0 x1 x2 x3 x4 x5; obtain ⟨x0, x1, x2, x3, x4, x5⟩ := (hs3.blk ps hgb).six; obtain ⟨y0, y1, y2, y3, y4, y5⟩ := hs3.six hkB H6.out)
      clear x0 x1 x2 x3 x4
      refine wp_region_held_drew (S := fun w' => w'.cell? ⟨g, 5, none⟩ = some (.slice (some ⟨kb, ko, none⟩) n c3) ∧ w'.cell? ⟨kb, ko + i * 6, none⟩ = some v0 ∧ w'.cell? ⟨kb, ko + i * 6 + 1, none⟩ = some v1 ∧ w'.cell? ⟨kb, ko + i * 6 + 2, none⟩ = some v2 ∧ w'.cell? ⟨kb, ko + i * 6 + 3, none⟩ = some v3 ∧ w'.cell? ⟨kb, ko + i * 6 + 4, none⟩ = some v4 ∧ w'.cell? ⟨kb, ko + i * 6 + 5, none⟩ = some v5) (by kernel_rfl) (by exact ⟨x5, y0, y1, y2, y3, y4, y5⟩) (fun hHeld => ?_)
      refine take_at 0 (by kernel_rfl) (by kernel_rfl) (by kernel_rfl) (fun _ _ d _ _ h => by cases d <;> exact h) ⟨_, rfl⟩ (by assumption) (fun o ho => ?_)
      simp only [zg1, zg3, zg4] at ho
      subst ho
      refine ⟨?_, ⟨by rfl, ?_⟩, ?_⟩
      rotate_left
      · intro w hSw
        (try dsimp only at hSw)
        obtain ⟨hS0, hS1, hS2, hS3, hS4, hS5, hS6⟩ := hSw
        (go_simp; try with_reducible rfl)
      (try simp only [Act.put, zs1, zs2, zs3])
      refine take_at 1 (by kernel_rfl) (by kernel_rfl) (by kernel_rfl) (fun _ _ d _ _ h => by cases d <;> exact h) ⟨_, rfl⟩ (by assumption) (fun o ho => ?_)
      simp only [zg1, zg2, zg3, zg4] at ho
      subst ho
      refine ⟨?_, ⟨by rfl, ?_⟩, ?_⟩
      rotate_left
      · intro w hSw
        (try dsimp only at hSw)
        obtain ⟨hS0, hS1, hS2, hS3, hS4, hS5, hS6⟩ := hSw
        (go_simp; try with_reducible rfl)
      (try simp only [Act.put, zs1, zs2, zs3])
      refine take_at 2 (by kernel_rfl) (by kernel_rfl) (by kernel_rfl) (fun _ _ d _ _ h => by cases d <;> exact h) ⟨_, rfl⟩ (by assumption) (fun o ho => ?_)
      simp only [zg1, zg2, zg3, zg4] at ho
      subst ho
      refine ⟨?_, ⟨by rfl, ?_⟩, ?_⟩
      rotate_left
      · intro w hSw
        (try dsimp only at hSw)
        obtain ⟨hS0, hS1, hS2, hS3, hS4, hS5, hS6⟩ := hSw
        (go_simp; try with_reducible rfl)
      (try simp only [Act.put, zs1, zs2, zs3])
      refine take_at 3 (by kernel_rfl) (by kernel_rfl) (by kernel_rfl) (fun _ _ d _ _ h => by cases d <;> exact h) ⟨_, rfl⟩ (by assumption) (fun o ho => ?_)
      simp only [zg1, zg2, zg3, zg4] at ho
      subst ho
      refine ⟨?_, ⟨by rfl, ?_⟩, ?_⟩
      rotate_left
      · intro w hSw
        (try dsimp only at hSw)
        obtain ⟨hS0, hS1, hS2, hS3, hS4, hS5, hS6⟩ := hSw
        (go_simp; try with_reducible rfl)
      (try simp only [Act.put, zs1, zs2, zs3])
      refine take_at 4 (by kernel_rfl) (by kernel_rfl) (by kernel_rfl) (fun _ _ d _ _ h => by cases d <;> exact h) ⟨_, rfl⟩ (by assumption) (fun o ho => ?_)
      simp only [zg1, zg2, zg3, zg4] at ho
      subst ho
      refine ⟨?_, ⟨by rfl, ?_⟩, ?_⟩
      rotate_left
      · intro w hSw
        (try dsimp only at hSw)
        obtain ⟨hS0, hS1, hS2, hS3, hS4, hS5, hS6⟩ := hSw
        (go_simp; try with_reducible rfl)
      (try simp only [Act.put, zs1, zs2, zs3])
      refine take_at 5 (by kernel_rfl) (by kernel_rfl) (by kernel_rfl) (fun _ _ d _ _ h => by cases d <;> exact h) ⟨_, rfl⟩ (by assumption) (fun o ho => ?_)
      simp only [zg1, zg2, zg3, zg4] at ho
      subst ho
      refine ⟨?_, ⟨by rfl, ?_⟩, ?_⟩
      rotate_left
      · intro w hSw
        (try dsimp only at hSw)
        obtain ⟨hS0, hS1, hS2, hS3, hS4, hS5, hS6⟩ := hSw
        (go_simp; try with_reducible rfl)
      (try simp only [Act.put, zs1, zs2, zs3])
      refine take_at 6 (by kernel_rfl) (by kernel_rfl) (by kernel_rfl) (fun _ _ d _ _ h => by cases d <;> exact h) ⟨_, rfl⟩ (by assumption) (fun o ho => ?_)
      simp only [zg1, zg2, zg3, zg4] at ho
      subst ho
      refine ⟨?_, ⟨by rfl, ?_⟩, ?_⟩
      rotate_left
      · intro w hSw
        (try dsimp only at hSw)
        obtain ⟨hS0, hS1, hS2, hS3, hS4, hS5, hS6⟩ := hSw
        (go_simp; try with_reducible rfl)
      (try simp only [Act.put, zs1, zs2, zs3])
      refine take_at 7 (by kernel_rfl) (by kernel_rfl) (by kernel_rfl) (fun _ _ d _ _ h => by cases d <;> exact h) ⟨_, rfl⟩ (by assumption) (fun o ho => ?_)
      simp only [zg1, zg2, zg3, zg4] at ho
      subst ho
      refine ⟨?_, ⟨by rfl, ?_⟩, ?_⟩
      rotate_left
      · intro w hSw
        (try dsimp only at hSw)
        obtain ⟨hS0, hS1, hS2, hS3, hS4, hS5, hS6⟩ := hSw
        (go_simp; try with_reducible rfl)
      (try simp only [Act.put, zs1, zs2, zs3])
      refine take_at 8 (by kernel_rfl) (by kernel_rfl) (by kernel_rfl) (fun _ _ d _ _ h => by cases d <;> exact h) ⟨_, rfl⟩ (by assumption) (fun o ho => ?_)
      simp only [zg1, zg2, zg3, zg4] at ho
      subst ho
      refine ⟨?_, ⟨by rfl, ?_⟩, ?_⟩
      rotate_left
      · intro w hSw
        (try dsimp only at hSw)
        obtain ⟨hS0, hS1, hS2, hS3, hS4, hS5, hS6⟩ := hSw
        (go_simp; try with_reducible rfl)
      (try simp only [Act.put, zs1, zs2, zs3])
      refine take_at 9 (by kernel_rfl) (by kernel_rfl) (by kernel_rfl) (fun _ _ d _ _ h => by cases d <;> exact h) ⟨_, rfl⟩ (by assumption) (fun o ho => ?_)
      simp only [zg1, zg2, zg3, zg4] at ho
      subst ho
      refine ⟨?_, ⟨by rfl, ?_⟩, ?_⟩
      rotate_left
      · intro w hSw
        (try dsimp only at hSw)
        obtain ⟨hS0, hS1, hS2, hS3, hS4, hS5, hS6⟩ := hSw
        (go_simp; try with_reducible rfl)
      (try simp only [Act.put, zs1, zs2, zs3])
      refine take_at 10 (by kernel_rfl) (by kernel_rfl) (by kernel_rfl) (fun _ _ d _ _ h => by cases d <;> exact h) ⟨_, rfl⟩ (by assumption) (fun o ho => ?_)
      simp only [zg1, zg2, zg3, zg4] at ho
      subst ho
      refine ⟨?_, ⟨by rfl, ?_⟩, ?_⟩
      rotate_left
      · intro w hSw
        (try dsimp only at hSw)
        obtain ⟨hS0, hS1, hS2, hS3, hS4, hS5, hS6⟩ := hSw
        (go_simp; try with_reducible rfl)
      (try simp only [Act.put, zs1, zs2, zs3])
      refine take_at 11 (by kernel_rfl) (by kernel_rfl) (by kernel_rfl) (fun _ _ d _ _ h => by cases d <;> exact h) ⟨_, rfl⟩ (by assumption) (fun o ho => ?_)
      simp only [zg1, zg2, zg3, zg4] at ho
      subst ho
      refine ⟨?_, ⟨by rfl, ?_⟩, ?_⟩
      rotate_left
      · intro w hSw
        (try dsimp only at hSw)
        obtain ⟨hS0, hS1, hS2, hS3, hS4, hS5, hS6⟩ := hSw
        (go_simp; try with_reducible rfl)
      (try simp only [Act.put, zs1, zs2, zs3])
      refine take_at 12 (by kernel_rfl) (by kernel_rfl) (by kernel_rfl) (fun _ _ d _ _ h => by cases d <;> exact h) ⟨_, rfl⟩ (by assumption) (fun o ho => ?_)
      simp only [zg1, zg2, zg3, zg4] at ho
      subst ho
      refine ⟨?_, ⟨by rfl, ?_⟩, ?_⟩
      rotate_left
      · intro w hSw
        (try dsimp only at hSw)
        obtain ⟨hS0, hS1, hS2, hS3, hS4, hS5, hS6⟩ := hSw
        (go_simp; try with_reducible rfl)
      (try simp only [Act.put, zs1, zs2, zs3])
      refine take_at 13 (by kernel_rfl) (by kernel_rfl) (by kernel_rfl) (fun _ _ d _ _ h => by cases d <;> exact h) ⟨_, rfl⟩ (by assumption) (fun o ho => ?_)
      simp only [zg1, zg2, zg3, zg4] at ho
      subst ho
      refine ⟨?_, ⟨by rfl, ?_⟩, ?_⟩
      rotate_left
      · intro w hSw
        (try dsimp only at hSw)
        obtain ⟨hS0, hS1, hS2, hS3, hS4, hS5, hS6⟩ := hSw
        (go_simp; try with_reducible rfl)
      (try simp only [Act.put, zs1, zs2, zs3])
      refine take_at 14 (by kernel_rfl) (by kernel_rfl) (by kernel_rfl) (fun _ _ d _ _ h => by cases d <;> exact h) ⟨_, rfl⟩ (by assumption) (fun o ho => ?_)
      simp only [zg1, zg2, zg3, zg4] at ho
      subst ho
      refine ⟨?_, ⟨by rfl, ?_⟩, ?_⟩
      rotate_left
      · intro w hSw
        (try dsimp only at hSw)
        obtain ⟨hS0, hS1, hS2, hS3, hS4, hS5, hS6⟩ := hSw
        (go_simp; try with_reducible rfl)
      (try simp only [Act.put, zs1, zs2, zs3])
      refine take_at 15 (by kernel_rfl) (by kernel_rfl) (by kernel_rfl) (fun _ _ d _ _ h => by cases d <;> exact h) ⟨_, rfl⟩ (by assumption) (fun o ho => ?_)
      simp only [zg1, zg2, zg3, zg4] at ho
      subst ho
      refine ⟨?_, ⟨by rfl, ?_⟩, ?_⟩
      rotate_left
      · intro w hSw
        (try dsimp only at hSw)
        obtain ⟨hS0, hS1, hS2, hS3, hS4, hS5, hS6⟩ := hSw
        (go_simp; try with_reducible rfl)
      (try simp only [Act.put, zs1, zs2, zs3])
      refine wpAnyH_ready (rs := [16]) (by kernel_rfl) (by simp) ?_
      refine ready_at 16 ⟨_, rfl⟩ (fun o ho K hK => ?_) AllReadyH.nil
      simp only [zg1, zg2, zg3, zg4] at ho
      subst ho
      go_simp
      go_at_call 42
      refine (HFK.out B b _ o q W _ R _ hs3.drew hB2 HKI.out HR.out).mono ?_
      rintro e w4 ⟨rfl, hs4⟩
      refine hK.out _ _ ?_ (fun hHeld2 => ?_)
      · obtain ⟨_, _, _, _, _, z5⟩ := (hs4.blk ps hgb).six
        obtain ⟨z0, z1, z2, z3, z4, z6⟩ := hs4.six hkB H6.out
        exact ⟨z5, z0, z1, z2, z3, z4, z6⟩
      clear hK K hHeld2 hHeld x5 y0 y1 y2 y3 y4 y5
      (try simp only [zs1, zs2, zs3])
      refine wpAnyH_done (by kernel_rfl) ?_ _
      go_wp2_with fail
      go_roundg (n + 1 - i)
      case measure => omega
      case rel => exact ⟨i + 1, wrt ++ ((32 :: (wd.data.toList ++ [32])) ++ formB o q k), by omega, by omega, by omega, by go_num, by rw [List.append_assoc, List.append_assoc]; exact HLW.out, by rw [List.append_assoc, List.append_assoc] at hs4; exact hs4⟩
     · have hi3 : decide (i < n) = false := decide_eq_false hlt
       obtain rfl : i = n := by omega
       rw [HE.out, List.append_nil] at hw
       subst hw
       go_wp2_with fail
       go_end0
       exact ⟨rfl, HS.out.join hs2⟩
end
section
open Go.RowKit
open Go.Shelf
attribute [local go_sem] Oper.semAt_some
set_option maxHeartbeats 3200000 in
set_option maxRecDepth 100000 in
theorem rbody_9 (t u : T) (iht : SumR t) (ihu : SumR u) : BodyR (P.nd 9 [t, u]) := by
 intro B b full least last W0 w R v hnp hs hB h hR
 have e : bodyB last (P.nd 9 [t, u]) = (termB t false ++ [32, 60, 32]) ++ termB u false := by
  unfold bodyB
  rw [P.body_cmp (by decide), P.bytes_append, P.bytes_cons, P.bytes_cons, P.bytes_cons, List.append_assoc]
  rfl
 rw [e, ← List.append_assoc, ← List.append_assoc]
 clear e
 have h := hs.In hR h
 rw [P.nd, T.In] at h
 obtain ⟨A1, c1, A2, c2, A3, c3, rfl, -, -, hc3, hk⟩ := h
 obtain ⟨kb, ko, rfl, hRk, hI⟩ := hk (by simp)
 rw [T.Ins, T.Ins] at hI
 obtain ⟨⟨v0, v1, v2, v3, v4, v5, h6, hI0⟩, ⟨u0, u1, u2, u3, u4, u5, k6, hJ0⟩, -⟩ := hI
 have hkB := hR kb hRk
 clear hk
 obtain ⟨L, hL⟩ : ∃ x, P.level 9 = x := ⟨_, rfl⟩
 have d1 : decide ((L : Int) < (least : Int)) = false := by simp; have : ¬ (P.level 9 < least) := fun h => hnp (.inl h); rw [hL] at this; omega
 have d2 : decide (L < least) = false := by simp; have : ¬ (P.level 9 < least) := fun h => hnp (.inl h); rw [hL] at this; omega
 have HLV := Lib.hid (level_k 9 L hL)
 clear hnp hL
 have IHT := Lib.hid iht
 have IHU := Lib.hid ihu
 clear iht ihu
 unfold tv
 simp only [List.length_nil, List.length_cons, Nat.zero_add, Nat.reduceAdd]
 go_enter Tryz.func42, Tryz.ntmps42
 go_upto_region 1 with (fail)
 obtain ⟨W, hW, ps, hbW⟩ := made_blk w #[.int .i64 9, .string ⟨#[]⟩, .slice A1 0 c1, .bool false, .slice A2 0 c2, .slice (some ⟨kb, ko, none⟩) 2 c3] 28
 obtain ⟨g, hg⟩ : ∃ g, g = w.heap.size := ⟨_, rfl⟩
 have HS := Lib.hid (hs.below hB hbW)
 have hs0 := WS.of HS.out.wr
 have hB1 := Nat.le_trans hB hs.bl.size
 have hB2 : B ≤ W.heap.size := Nat.le_trans hB1 hbW.size
 have hgb : g ≠ b := by have := hs.lt; omega
 have hbB := hbW.mono hB1
 have HI := Lib.hid (hI0.under hR hbB)
 have HJ := Lib.hid (hJ0.under hR hbB)
 have h6 := h6.keep (fun p v hp hc => (hbB.cell (by rw [hp]; exact hkB)).trans hc)
 have k6 := k6.keep (fun p v hp hc => (hbB.cell (by rw [hp]; exact hkB)).trans hc)
 have HR := Lib.hid hR
 clear hI0 hJ0 hR
 rw [← hW, ← hg]
 rw [← hg] at ps
 clear hW hbW hg hs hB hB1 hbB
 obtain ⟨x0, x1, x2, x3, x4, x5⟩ := ps.six
 obtain ⟨y0, y1, y2, y3, y4, y5⟩ := h6
 go_upto_region 7 with (go_at_call 69; refine (HLV.out _).mono ?_; rintro e w5 ⟨rfl, hw5⟩; obtain rfl := hw5.symm)
 go_upto_region 8 with (go_at_call 72; refine (IHT.out B b _ false W _ R _ hs0 hB2 HI.out HR.out).mono ?_; rintro e w1 ⟨rfl, hs1⟩; clear x0 x1 x2 x3 x4 x5; obtain ⟨x0, x1, x2, x3, x4, x5⟩ := (hs1.blk ps hgb).six)
 go_upto_region 9 with (first | (go_at_call 74; refine (signs_9 _).mono ?_; rintro e w7 ⟨rfl, hw7⟩; obtain rfl := hw7.symm) | (go_at_call 70; refine (put_r _ [32, 60, 32] rfl hs1 (by decide) hB2).mono ?_; rintro e w2 ⟨rfl, hs2⟩; clear x0 x1 x2 x3 x4 x5; obtain ⟨x0, x1, x2, x3, x4, x5⟩ := (hs2.blk ps hgb).six))
 clear y0 y1 y2 y3 y4 y5
 obtain ⟨y0, y1, y2, y3, y4, y5⟩ := hs2.six hkB k6
 go_wp2_with (go_at_call 72; refine (IHU.out B b _ false W _ R _ hs2 hB2 HJ.out HR.out).mono ?_; rintro e w3 ⟨rfl, hs3⟩; clear x0 x1 x2 x3 x4 x5; obtain ⟨x0, x1, x2, x3, x4, x5⟩ := (hs3.blk ps hgb).six)
 go_end0
 exact ⟨rfl, HS.out.join hs3⟩
set_option maxHeartbeats 3200000 in
set_option maxRecDepth 100000 in
theorem rbody_10 (t u : T) (iht : SumR t) (ihu : SumR u) : BodyR (P.nd 10 [t, u]) := by
 intro B b full least last W0 w R v hnp hs hB h hR
 have e : bodyB last (P.nd 10 [t, u]) = (termB t false ++ [32, 60, 61, 32]) ++ termB u false := by
  unfold bodyB
  rw [P.body_cmp (by decide), P.bytes_append, P.bytes_cons, P.bytes_cons, P.bytes_cons, List.append_assoc]
  rfl
 rw [e, ← List.append_assoc, ← List.append_assoc]
 clear e
 have h := hs.In hR h
 rw [P.nd, T.In] at h
 obtain ⟨A1, c1, A2, c2, A3, c3, rfl, -, -, hc3, hk⟩ := h
 obtain ⟨kb, ko, rfl, hRk, hI⟩ := hk (by simp)
 rw [T.Ins, T.Ins] at hI
 obtain ⟨⟨v0, v1, v2, v3, v4, v5, h6, hI0⟩, ⟨u0, u1, u2, u3, u4, u5, k6, hJ0⟩, -⟩ := hI
 have hkB := hR kb hRk
 clear hk
 obtain ⟨L, hL⟩ : ∃ x, P.level 10 = x := ⟨_, rfl⟩
 have d1 : decide ((L : Int) < (least : Int)) = false := by simp; have : ¬ (P.level 10 < least) := fun h => hnp (.inl h); rw [hL] at this; omega
 have d2 : decide (L < least) = false := by simp; have : ¬ (P.level 10 < least) := fun h => hnp (.inl h); rw [hL] at this; omega
 have HLV := Lib.hid (level_k 10 L hL)
 clear hnp hL
 have IHT := Lib.hid iht
 have IHU := Lib.hid ihu
 clear iht ihu
 unfold tv
 simp only [List.length_nil, List.length_cons, Nat.zero_add, Nat.reduceAdd]
 go_enter Tryz.func42, Tryz.ntmps42
 go_upto_region 1 with (fail)
 obtain ⟨W, hW, ps, hbW⟩ := made_blk w #[.int .i64 10, .string ⟨#[]⟩, .slice A1 0 c1, .bool false, .slice A2 0 c2, .slice (some ⟨kb, ko, none⟩) 2 c3] 28
 obtain ⟨g, hg⟩ : ∃ g, g = w.heap.size := ⟨_, rfl⟩
 have HS := Lib.hid (hs.below hB hbW)
 have hs0 := WS.of HS.out.wr
 have hB1 := Nat.le_trans hB hs.bl.size
 have hB2 : B ≤ W.heap.size := Nat.le_trans hB1 hbW.size
 have hgb : g ≠ b := by have := hs.lt; omega
 have hbB := hbW.mono hB1
 have HI := Lib.hid (hI0.under hR hbB)
 have HJ := Lib.hid (hJ0.under hR hbB)
 have h6 := h6.keep (fun p v hp hc => (hbB.cell (by rw [hp]; exact hkB)).trans hc)
 have k6 := k6.keep (fun p v hp hc => (hbB.cell (by rw [hp]; exact hkB)).trans hc)
 have HR := Lib.hid hR
 clear hI0 hJ0 hR
 rw [← hW, ← hg]
 rw [← hg] at ps
 clear hW hbW hg hs hB hB1 hbB
 obtain ⟨x0, x1, x2, x3, x4, x5⟩ := ps.six
 obtain ⟨y0, y1, y2, y3, y4, y5⟩ := h6
 go_upto_region 7 with (go_at_call 69; refine (HLV.out _).mono ?_; rintro e w5 ⟨rfl, hw5⟩; obtain rfl := hw5.symm)
 go_upto_region 8 with (go_at_call 72; refine (IHT.out B b _ false W _ R _ hs0 hB2 HI.out HR.out).mono ?_; rintro e w1 ⟨rfl, hs1⟩; clear x0 x1 x2 x3 x4 x5; obtain ⟨x0, x1, x2, x3, x4, x5⟩ := (hs1.blk ps hgb).six)
 go_upto_region 9 with (first | (go_at_call 74; refine (signs_10 _).mono ?_; rintro e w7 ⟨rfl, hw7⟩; obtain rfl := hw7.symm) | (go_at_call 70; refine (put_r _ [32, 60, 61, 32] rfl hs1 (by decide) hB2).mono ?_; rintro e w2 ⟨rfl, hs2⟩; clear x0 x1 x2 x3 x4 x5; obtain ⟨x0, x1, x2, x3, x4, x5⟩ := (hs2.blk ps hgb).six))
 clear y0 y1 y2 y3 y4 y5
 obtain ⟨y0, y1, y2, y3, y4, y5⟩ := hs2.six hkB k6
 go_wp2_with (go_at_call 72; refine (IHU.out B b _ false W _ R _ hs2 hB2 HJ.out HR.out).mono ?_; rintro e w3 ⟨rfl, hs3⟩; clear x0 x1 x2 x3 x4 x5; obtain ⟨x0, x1, x2, x3, x4, x5⟩ := (hs3.blk ps hgb).six)
 go_end0
 exact ⟨rfl, HS.out.join hs3⟩
set_option maxHeartbeats 3200000 in
set_option maxRecDepth 100000 in
theorem rbody_11 (t u : T) (iht : SumR t) (ihu : SumR u) : BodyR (P.nd 11 [t, u]) := by
 intro B b full least last W0 w R v hnp hs hB h hR
 have e : bodyB last (P.nd 11 [t, u]) = (termB t false ++ [32, 61, 32]) ++ termB u false := by
  unfold bodyB
  rw [P.body_cmp (by decide), P.bytes_append, P.bytes_cons, P.bytes_cons, P.bytes_cons, List.append_assoc]
  rfl
 rw [e, ← List.append_assoc, ← List.append_assoc]
 clear e
 have h := hs.In hR h
 rw [P.nd, T.In] at h
 obtain ⟨A1, c1, A2, c2, A3, c3, rfl, -, -, hc3, hk⟩ := h
 obtain ⟨kb, ko, rfl, hRk, hI⟩ := hk (by simp)
 rw [T.Ins, T.Ins] at hI
 obtain ⟨⟨v0, v1, v2, v3, v4, v5, h6, hI0⟩, ⟨u0, u1, u2, u3, u4, u5, k6, hJ0⟩, -⟩ := hI
 have hkB := hR kb hRk
 clear hk
 obtain ⟨L, hL⟩ : ∃ x, P.level 11 = x := ⟨_, rfl⟩
 have d1 : decide ((L : Int) < (least : Int)) = false := by simp; have : ¬ (P.level 11 < least) := fun h => hnp (.inl h); rw [hL] at this; omega
 have d2 : decide (L < least) = false := by simp; have : ¬ (P.level 11 < least) := fun h => hnp (.inl h); rw [hL] at this; omega
 have HLV := Lib.hid (level_k 11 L hL)
 clear hnp hL
 have IHT := Lib.hid iht
 have IHU := Lib.hid ihu
 clear iht ihu
 unfold tv
 simp only [List.length_nil, List.length_cons, Nat.zero_add, Nat.reduceAdd]
 go_enter Tryz.func42, Tryz.ntmps42
 go_upto_region 1 with (fail)
 obtain ⟨W, hW, ps, hbW⟩ := made_blk w #[.int .i64 11, .string ⟨#[]⟩, .slice A1 0 c1, .bool false, .slice A2 0 c2, .slice (some ⟨kb, ko, none⟩) 2 c3] 28
 obtain ⟨g, hg⟩ : ∃ g, g = w.heap.size := ⟨_, rfl⟩
 have HS := Lib.hid (hs.below hB hbW)
 have hs0 := WS.of HS.out.wr
 have hB1 := Nat.le_trans hB hs.bl.size
 have hB2 : B ≤ W.heap.size := Nat.le_trans hB1 hbW.size
 have hgb : g ≠ b := by have := hs.lt; omega
 have hbB := hbW.mono hB1
 have HI := Lib.hid (hI0.under hR hbB)
 have HJ := Lib.hid (hJ0.under hR hbB)
 have h6 := h6.keep (fun p v hp hc => (hbB.cell (by rw [hp]; exact hkB)).trans hc)
 have k6 := k6.keep (fun p v hp hc => (hbB.cell (by rw [hp]; exact hkB)).trans hc)
 have HR := Lib.hid hR
 clear hI0 hJ0 hR
 rw [← hW, ← hg]
 rw [← hg] at ps
 clear hW hbW hg hs hB hB1 hbB
 obtain ⟨x0, x1, x2, x3, x4, x5⟩ := ps.six
 obtain ⟨y0, y1, y2, y3, y4, y5⟩ := h6
 go_upto_region 7 with (go_at_call 69; refine (HLV.out _).mono ?_; rintro e w5 ⟨rfl, hw5⟩; obtain rfl := hw5.symm)
 go_upto_region 8 with (go_at_call 72; refine (IHT.out B b _ false W _ R _ hs0 hB2 HI.out HR.out).mono ?_; rintro e w1 ⟨rfl, hs1⟩; clear x0 x1 x2 x3 x4 x5; obtain ⟨x0, x1, x2, x3, x4, x5⟩ := (hs1.blk ps hgb).six)
 go_upto_region 9 with (first | (go_at_call 74; refine (signs_11 _).mono ?_; rintro e w7 ⟨rfl, hw7⟩; obtain rfl := hw7.symm) | (go_at_call 70; refine (put_r _ [32, 61, 32] rfl hs1 (by decide) hB2).mono ?_; rintro e w2 ⟨rfl, hs2⟩; clear x0 x1 x2 x3 x4 x5; obtain ⟨x0, x1, x2, x3, x4, x5⟩ := (hs2.blk ps hgb).six))
 clear y0 y1 y2 y3 y4 y5
 obtain ⟨y0, y1, y2, y3, y4, y5⟩ := hs2.six hkB k6
 go_wp2_with (go_at_call 72; refine (IHU.out B b _ false W _ R _ hs2 hB2 HJ.out HR.out).mono ?_; rintro e w3 ⟨rfl, hs3⟩; clear x0 x1 x2 x3 x4 x5; obtain ⟨x0, x1, x2, x3, x4, x5⟩ := (hs3.blk ps hgb).six)
 go_end0
 exact ⟨rfl, HS.out.join hs3⟩
set_option maxHeartbeats 3200000 in
set_option maxRecDepth 100000 in
theorem rbody_12 (t u : T) (iht : SumR t) (ihu : SumR u) : BodyR (P.nd 12 [t, u]) := by
 intro B b full least last W0 w R v hnp hs hB h hR
 have e : bodyB last (P.nd 12 [t, u]) = (termB t false ++ [32, 33, 61, 32]) ++ termB u false := by
  unfold bodyB
  rw [P.body_cmp (by decide), P.bytes_append, P.bytes_cons, P.bytes_cons, P.bytes_cons, List.append_assoc]
  rfl
 rw [e, ← List.append_assoc, ← List.append_assoc]
 clear e
 have h := hs.In hR h
 rw [P.nd, T.In] at h
 obtain ⟨A1, c1, A2, c2, A3, c3, rfl, -, -, hc3, hk⟩ := h
 obtain ⟨kb, ko, rfl, hRk, hI⟩ := hk (by simp)
 rw [T.Ins, T.Ins] at hI
 obtain ⟨⟨v0, v1, v2, v3, v4, v5, h6, hI0⟩, ⟨u0, u1, u2, u3, u4, u5, k6, hJ0⟩, -⟩ := hI
 have hkB := hR kb hRk
 clear hk
 obtain ⟨L, hL⟩ : ∃ x, P.level 12 = x := ⟨_, rfl⟩
 have d1 : decide ((L : Int) < (least : Int)) = false := by simp; have : ¬ (P.level 12 < least) := fun h => hnp (.inl h); rw [hL] at this; omega
 have d2 : decide (L < least) = false := by simp; have : ¬ (P.level 12 < least) := fun h => hnp (.inl h); rw [hL] at this; omega
 have HLV := Lib.hid (level_k 12 L hL)
 clear hnp hL
 have IHT := Lib.hid iht
 have IHU := Lib.hid ihu
 clear iht ihu
 unfold tv
 simp only [List.length_nil, List.length_cons, Nat.zero_add, Nat.reduceAdd]
 go_enter Tryz.func42, Tryz.ntmps42
 go_upto_region 1 with (fail)
 obtain ⟨W, hW, ps, hbW⟩ := made_blk w #[.int .i64 12, .string ⟨#[]⟩, .slice A1 0 c1, .bool false, .slice A2 0 c2, .slice (some ⟨kb, ko, none⟩) 2 c3] 28
 obtain ⟨g, hg⟩ : ∃ g, g = w.heap.size := ⟨_, rfl⟩
 have HS := Lib.hid (hs.below hB hbW)
 have hs0 := WS.of HS.out.wr
 have hB1 := Nat.le_trans hB hs.bl.size
 have hB2 : B ≤ W.heap.size := Nat.le_trans hB1 hbW.size
 have hgb : g ≠ b := by have := hs.lt; omega
 have hbB := hbW.mono hB1
 have HI := Lib.hid (hI0.under hR hbB)
 have HJ := Lib.hid (hJ0.under hR hbB)
 have h6 := h6.keep (fun p v hp hc => (hbB.cell (by rw [hp]; exact hkB)).trans hc)
 have k6 := k6.keep (fun p v hp hc => (hbB.cell (by rw [hp]; exact hkB)).trans hc)
 have HR := Lib.hid hR
 clear hI0 hJ0 hR
 rw [← hW, ← hg]
 rw [← hg] at ps
 clear hW hbW hg hs hB hB1 hbB
 obtain ⟨x0, x1, x2, x3, x4, x5⟩ := ps.six
 obtain ⟨y0, y1, y2, y3, y4, y5⟩ := h6
 go_upto_region 7 with (go_at_call 69; refine (HLV.out _).mono ?_; rintro e w5 ⟨rfl, hw5⟩; obtain rfl := hw5.symm)
 go_upto_region 8 with (go_at_call 72; refine (IHT.out B b _ false W _ R _ hs0 hB2 HI.out HR.out).mono ?_; rintro e w1 ⟨rfl, hs1⟩; clear x0 x1 x2 x3 x4 x5; obtain ⟨x0, x1, x2, x3, x4, x5⟩ := (hs1.blk ps hgb).six)
 go_upto_region 9 with (first | (go_at_call 74; refine (signs_12 _).mono ?_; rintro e w7 ⟨rfl, hw7⟩; obtain rfl := hw7.symm) | (go_at_call 70; refine (put_r _ [32, 33, 61, 32] rfl hs1 (by decide) hB2).mono ?_; rintro e w2 ⟨rfl, hs2⟩; clear x0 x1 x2 x3 x4 x5; obtain ⟨x0, x1, x2, x3, x4, x5⟩ := (hs2.blk ps hgb).six))
 clear y0 y1 y2 y3 y4 y5
 obtain ⟨y0, y1, y2, y3, y4, y5⟩ := hs2.six hkB k6
 go_wp2_with (go_at_call 72; refine (IHU.out B b _ false W _ R _ hs2 hB2 HJ.out HR.out).mono ?_; rintro e w3 ⟨rfl, hs3⟩; clear x0 x1 x2 x3 x4 x5; obtain ⟨x0, x1, x2, x3, x4, x5⟩ := (hs3.blk ps hgb).six)
 go_end0
 exact ⟨rfl, HS.out.join hs3⟩
set_option maxHeartbeats 3200000 in
set_option maxRecDepth 100000 in
theorem rbody_13 (t u : T) (iht : SumR t) (ihu : SumR u) : BodyR (P.nd 13 [t, u]) := by
 intro B b full least last W0 w R v hnp hs hB h hR
 have e : bodyB last (P.nd 13 [t, u]) = (termB t false ++ [32, 62, 61, 32]) ++ termB u false := by
  unfold bodyB
  rw [P.body_cmp (by decide), P.bytes_append, P.bytes_cons, P.bytes_cons, P.bytes_cons, List.append_assoc]
  rfl
 rw [e, ← List.append_assoc, ← List.append_assoc]
 clear e
 have h := hs.In hR h
 rw [P.nd, T.In] at h
 obtain ⟨A1, c1, A2, c2, A3, c3, rfl, -, -, hc3, hk⟩ := h
 obtain ⟨kb, ko, rfl, hRk, hI⟩ := hk (by simp)
 rw [T.Ins, T.Ins] at hI
 obtain ⟨⟨v0, v1, v2, v3, v4, v5, h6, hI0⟩, ⟨u0, u1, u2, u3, u4, u5, k6, hJ0⟩, -⟩ := hI
 have hkB := hR kb hRk
 clear hk
 obtain ⟨L, hL⟩ : ∃ x, P.level 13 = x := ⟨_, rfl⟩
 have d1 : decide ((L : Int) < (least : Int)) = false := by simp; have : ¬ (P.level 13 < least) := fun h => hnp (.inl h); rw [hL] at this; omega
 have d2 : decide (L < least) = false := by simp; have : ¬ (P.level 13 < least) := fun h => hnp (.inl h); rw [hL] at this; omega
 have HLV := Lib.hid (level_k 13 L hL)
 clear hnp hL
 have IHT := Lib.hid iht
 have IHU := Lib.hid ihu
 clear iht ihu
 unfold tv
 simp only [List.length_nil, List.length_cons, Nat.zero_add, Nat.reduceAdd]
 go_enter Tryz.func42, Tryz.ntmps42
 go_upto_region 1 with (fail)
 obtain ⟨W, hW, ps, hbW⟩ := made_blk w #[.int .i64 13, .string ⟨#[]⟩, .slice A1 0 c1, .bool false, .slice A2 0 c2, .slice (some ⟨kb, ko, none⟩) 2 c3] 28
 obtain ⟨g, hg⟩ : ∃ g, g = w.heap.size := ⟨_, rfl⟩
 have HS := Lib.hid (hs.below hB hbW)
 have hs0 := WS.of HS.out.wr
 have hB1 := Nat.le_trans hB hs.bl.size
 have hB2 : B ≤ W.heap.size := Nat.le_trans hB1 hbW.size
 have hgb : g ≠ b := by have := hs.lt; omega
 have hbB := hbW.mono hB1
 have HI := Lib.hid (hI0.under hR hbB)
 have HJ := Lib.hid (hJ0.under hR hbB)
 have h6 := h6.keep (fun p v hp hc => (hbB.cell (by rw [hp]; exact hkB)).trans hc)
 have k6 := k6.keep (fun p v hp hc => (hbB.cell (by rw [hp]; exact hkB)).trans hc)
 have HR := Lib.hid hR
 clear hI0 hJ0 hR
 rw [← hW, ← hg]
 rw [← hg] at ps
 clear hW hbW hg hs hB hB1 hbB
 obtain ⟨x0, x1, x2, x3, x4, x5⟩ := ps.six
 obtain ⟨y0, y1, y2, y3, y4, y5⟩ := h6
 go_upto_region 7 with (go_at_call 69; refine (HLV.out _).mono ?_; rintro e w5 ⟨rfl, hw5⟩; obtain rfl := hw5.symm)
 go_upto_region 8 with (go_at_call 72; refine (IHT.out B b _ false W _ R _ hs0 hB2 HI.out HR.out).mono ?_; rintro e w1 ⟨rfl, hs1⟩; clear x0 x1 x2 x3 x4 x5; obtain ⟨x0, x1, x2, x3, x4, x5⟩ := (hs1.blk ps hgb).six)
 go_upto_region 9 with (first | (go_at_call 74; refine (signs_13 _).mono ?_; rintro e w7 ⟨rfl, hw7⟩; obtain rfl := hw7.symm) | (go_at_call 70; refine (put_r _ [32, 62, 61, 32] rfl hs1 (by decide) hB2).mono ?_; rintro e w2 ⟨rfl, hs2⟩; clear x0 x1 x2 x3 x4 x5; obtain ⟨x0, x1, x2, x3, x4, x5⟩ := (hs2.blk ps hgb).six))
 clear y0 y1 y2 y3 y4 y5
 obtain ⟨y0, y1, y2, y3, y4, y5⟩ := hs2.six hkB k6
 go_wp2_with (go_at_call 72; refine (IHU.out B b _ false W _ R _ hs2 hB2 HJ.out HR.out).mono ?_; rintro e w3 ⟨rfl, hs3⟩; clear x0 x1 x2 x3 x4 x5; obtain ⟨x0, x1, x2, x3, x4, x5⟩ := (hs3.blk ps hgb).six)
 go_end0
 exact ⟨rfl, HS.out.join hs3⟩
set_option maxHeartbeats 3200000 in
set_option maxRecDepth 100000 in
theorem rbody_14 (t u : T) (iht : SumR t) (ihu : SumR u) : BodyR (P.nd 14 [t, u]) := by
 intro B b full least last W0 w R v hnp hs hB h hR
 have e : bodyB last (P.nd 14 [t, u]) = (termB t false ++ [32, 62, 32]) ++ termB u false := by
  unfold bodyB
  rw [P.body_cmp (by decide), P.bytes_append, P.bytes_cons, P.bytes_cons, P.bytes_cons, List.append_assoc]
  rfl
 rw [e, ← List.append_assoc, ← List.append_assoc]
 clear e
 have h := hs.In hR h
 rw [P.nd, T.In] at h
 obtain ⟨A1, c1, A2, c2, A3, c3, rfl, -, -, hc3, hk⟩ := h
 obtain ⟨kb, ko, rfl, hRk, hI⟩ := hk (by simp)
 rw [T.Ins, T.Ins] at hI
 obtain ⟨⟨v0, v1, v2, v3, v4, v5, h6, hI0⟩, ⟨u0, u1, u2, u3, u4, u5, k6, hJ0⟩, -⟩ := hI
 have hkB := hR kb hRk
 clear hk
 obtain ⟨L, hL⟩ : ∃ x, P.level 14 = x := ⟨_, rfl⟩
 have d1 : decide ((L : Int) < (least : Int)) = false := by simp; have : ¬ (P.level 14 < least) := fun h => hnp (.inl h); rw [hL] at this; omega
 have d2 : decide (L < least) = false := by simp; have : ¬ (P.level 14 < least) := fun h => hnp (.inl h); rw [hL] at this; omega
 have HLV := Lib.hid (level_k 14 L hL)
 clear hnp hL
 have IHT := Lib.hid iht
 have IHU := Lib.hid ihu
 clear iht ihu
 unfold tv
 simp only [List.length_nil, List.length_cons, Nat.zero_add, Nat.reduceAdd]
 go_enter Tryz.func42, Tryz.ntmps42
 go_upto_region 1 with (fail)
 obtain ⟨W, hW, ps, hbW⟩ := made_blk w #[.int .i64 14, .string ⟨#[]⟩, .slice A1 0 c1, .bool false, .slice A2 0 c2, .slice (some ⟨kb, ko, none⟩) 2 c3] 28
 obtain ⟨g, hg⟩ : ∃ g, g = w.heap.size := ⟨_, rfl⟩
 have HS := Lib.hid (hs.below hB hbW)
 have hs0 := WS.of HS.out.wr
 have hB1 := Nat.le_trans hB hs.bl.size
 have hB2 : B ≤ W.heap.size := Nat.le_trans hB1 hbW.size
 have hgb : g ≠ b := by have := hs.lt; omega
 have hbB := hbW.mono hB1
 have HI := Lib.hid (hI0.under hR hbB)
 have HJ := Lib.hid (hJ0.under hR hbB)
 have h6 := h6.keep (fun p v hp hc => (hbB.cell (by rw [hp]; exact hkB)).trans hc)
 have k6 := k6.keep (fun p v hp hc => (hbB.cell (by rw [hp]; exact hkB)).trans hc)
 have HR := Lib.hid hR
 clear hI0 hJ0 hR
 rw [← hW, ← hg]
 rw [← hg] at ps
 clear hW hbW hg hs hB hB1 hbB
 obtain ⟨x0, x1, x2, x3, x4, x5⟩ := ps.six
 obtain ⟨y0, y1, y2, y3, y4, y5⟩ := h6
 go_upto_region 7 with (go_at_call 69; refine (HLV.out _).mono ?_; rintro e w5 ⟨rfl, hw5⟩; obtain rfl := hw5.symm)
 go_upto_region 8 with (go_at_call 72; refine (IHT.out B b _ false W _ R _ hs0 hB2 HI.out HR.out).mono ?_; rintro e w1 ⟨rfl, hs1⟩; clear x0 x1 x2 x3 x4 x5; obtain ⟨x0, x1, x2, x3, x4, x5⟩ := (hs1.blk ps hgb).six)
 go_upto_region 9 with (first | (go_at_call 74; refine (signs_14 _).mono ?_; rintro e w7 ⟨rfl, hw7⟩; obtain rfl := hw7.symm) | (go_at_call 70; refine (put_r _ [32, 62, 32] rfl hs1 (by decide) hB2).mono ?_; rintro e w2 ⟨rfl, hs2⟩; clear x0 x1 x2 x3 x4 x5; obtain ⟨x0, x1, x2, x3, x4, x5⟩ := (hs2.blk ps hgb).six))
 clear y0 y1 y2 y3 y4 y5
 obtain ⟨y0, y1, y2, y3, y4, y5⟩ := hs2.six hkB k6
 go_wp2_with (go_at_call 72; refine (IHU.out B b _ false W _ R _ hs2 hB2 HJ.out HR.out).mono ?_; rintro e w3 ⟨rfl, hs3⟩; clear x0 x1 x2 x3 x4 x5; obtain ⟨x0, x1, x2, x3, x4, x5⟩ := (hs3.blk ps hgb).six)
 go_end0
 exact ⟨rfl, HS.out.join hs3⟩
end
section
open Go.RowKit
open Go.Shelf
attribute [local go_sem] Oper.semAt_some
def nmsB (l : List ByteArray) : List UInt8 := l.flatMap (fun s => 32 :: s.data.toList)
theorem nmsB_join (s : ByteArray) (l : List ByteArray) : 32 :: joinB (s :: l) = nmsB (s :: l) := by
 induction l generalizing s with
 | nil => simp [nmsB, joinB, Lib.join]
 | cons a r ih =>
  have e : joinB (s :: a :: r) = s.data.toList ++ ([32] ++ joinB (a :: r)) := by simp [joinB, Lib.join]
  have e2 : nmsB (s :: a :: r) = 32 :: (s.data.toList ++ nmsB (a :: r)) := by simp [nmsB]
  rw [e, e2, ← ih a]
  rfl
theorem nmsB_snoc (l : List ByteArray) (s : ByteArray) : nmsB (l ++ [s]) = nmsB l ++ (32 :: s.data.toList) := by simp [nmsB]
set_option maxHeartbeats 3200000 in
set_option maxRecDepth 100000 in
theorem rbody_21 (s : ByteArray) (ns : List ByteArray) (u : T) (hbk : sbulk (s :: ns) ≤ 1048576) (ih : FormR u) : BodyR (.node 21 ⟨#[]⟩ (s :: ns) false [] [u]) := by
 intro B b full least last W0 w R v hnp hs hB h hR
 have e : bodyB last (.node 21 ⟨#[]⟩ (s :: ns) false [] [u]) = (([115, 111, 109, 101] ++ nmsB (s :: ns)) ++ [32, 46, 32]) ++ formB 1 last u := by
  unfold bodyB
  rw [P.body_some, P.bytes_cons, P.bytes_cons, bytes_names, P.bytes_cons, P.bytes_cons, ← nmsB_join]
  simp [P.itB, formB]
 rw [e, ← List.append_assoc, ← List.append_assoc, ← List.append_assoc]
 clear e
 have h := hs.In hR h
 rw [T.In] at h
 obtain ⟨A1, c1, A2, c2, A3, c3, rfl, hst, -, hc3, hk⟩ := h
 obtain ⟨kb, ko, rfl, hRk, hI⟩ := hk (by simp)
 rw [T.Ins] at hI
 obtain ⟨⟨v0, v1, v2, v3, v4, v5, h6, hI0⟩, -⟩ := hI
 have hkB := hR kb hRk
 clear hk
 obtain ⟨L, hL⟩ : ∃ x, P.level 21 = x := ⟨_, rfl⟩
 have d1 : decide ((L : Int) < (least : Int)) = false := by simp; have : ¬ (P.level 21 < least) := fun h => hnp (.inl h); rw [hL] at this; omega
 have d2 : decide (L < least) = false := by simp; have : ¬ (P.level 21 < least) := fun h => hnp (.inl h); rw [hL] at this; omega
 obtain rfl : last = true := by
  cases last
  · exact absurd (.inr ⟨rfl, rfl⟩) hnp
  · rfl
 have HLV := Lib.hid (level_k 21 L hL)
 clear hnp hL
 have IH := Lib.hid ih
 clear ih
 obtain ⟨l, hl⟩ : ∃ l, s :: ns = l := ⟨_, rfl⟩
 rw [hl] at hst hbk ⊢
 clear hl
 have hnl := sbulk_len l
 have HBK := Lib.hid (sbulk_get l)
 obtain ⟨n, hn⟩ : ∃ n, l.length = n := ⟨_, rfl⟩
 have hcap := hst.1
 rw [hn] at hnl hcap
 have HBK2 := Lib.hid hbk
 unfold tv
 rw [hn]
 have HN := Lib.hid hn
 clear hn hbk
 simp only [List.length_nil, List.length_cons, Nat.zero_add]
 go_enter Tryz.func42, Tryz.ntmps42
 go_upto_region 1 with (fail)
 obtain ⟨W, hW, ps, hbW⟩ := made_blk w #[.int .i64 21, .string ⟨#[]⟩, .slice A1 n c1, .bool false, .slice A2 0 c2, .slice (some ⟨kb, ko, none⟩) 1 c3] 28
 obtain ⟨g, hg⟩ : ∃ g, g = w.heap.size := ⟨_, rfl⟩
 have HS := Lib.hid (hs.below hB hbW)
 have hs0 := WS.of HS.out.wr
 have hB1 := Nat.le_trans hB hs.bl.size
 have hB2 : B ≤ W.heap.size := Nat.le_trans hB1 hbW.size
 have hgb : g ≠ b := by have := hs.lt; omega
 have hbB := hbW.mono hB1
 have HST := Lib.hid (StrL.under hst hR hbB)
 clear hst
 have HI := Lib.hid (hI0.under hR hbB)
 have h6 := h6.keep (fun p v hp hc => (hbB.cell (by rw [hp]; exact hkB)).trans hc)
 have HR := Lib.hid hR
 clear hI0 hR
 rw [← hW, ← hg]
 rw [← hg] at ps
 clear hW hbW hg hs hB hB1 hbB
 obtain ⟨x0, x1, x2, x3, x4, x5⟩ := ps.six
 go_upto_region 23 with (go_at_call 69; refine (HLV.out _).mono ?_; rintro e w5 ⟨rfl, hw5⟩; obtain rfl := hw5.symm)
 go_upto_region 25 with (go_at_call 70; refine (put_r _ [115, 111, 109, 101] rfl hs0 (by decide) hB2).mono ?_; rintro e w1 ⟨rfl, hs1⟩; clear x0 x1 x2 x3 x4 x5; obtain ⟨x0, x1, x2, x3, x4, x5⟩ := (hs1.blk ps hgb).six)
 have hn2 := HBK2.out
 go_wp2_with fail
 go_loopg [9] (n + 1) (fun gk v9 wr => ∃ i : Nat, gk + i = n + 1 ∧ i ≤ n ∧ v9 = .int .i64 (i : Nat) ∧ WS B b (full ++ [115, 111, 109, 101] ++ nmsB (l.take i)) W wr)
 case atStart => exact ⟨0, by omega, Nat.zero_le _, rfl, by simpa [nmsB] using hs1⟩
 case round =>
  clear x0 x1 x2 x3 x4 x5
  obtain ⟨i, hi, hin, rfl, hs2⟩ := hrel
  obtain ⟨x0, x1, x2, x3, x4, x5⟩ := (hs2.blk ps hgb).six
  by_cases hlt : i < n
  ·
   have hi3 : decide (i < n) = true := decide_eq_true hlt
   have hlt2 : i < l.length := by rw [HN.out]; exact hlt
   obtain ⟨nb, no, rfl, hnR, hc⟩ := HST.out.2 (by omega)
   have e0 := hs2.cell (HR.out nb hnR) (hc i hlt2)
   have hzz := HBK.out i hlt2
   have hsn := take_snoc l ⟨#[]⟩ i hlt2
   obtain ⟨z, hz⟩ : ∃ z, l.getD i ⟨#[]⟩ = z := ⟨_, rfl⟩
   rw [hz] at e0 hzz hsn
   have HSN := Lib.hid hsn
   have hi0 : (0 : Int) ≤ i := by omega
   have hi1 : (i : Int) < n := by omega
   have hz32 : (⟨#[32]⟩ : ByteArray).size = 1 := rfl
   have hcat : ¬ (9223372036854775807 < (⟨#[32]⟩ : ByteArray).size + z.size) := by omega
   have hcat2 : ¬ (9223372036854775807 < 1 + z.size) := by omega
   have HZL : Hid ((⟨#[32]⟩ ++ z : ByteArray).data.toList = 32 :: z.data.toList) := Lib.hid (by simp)
   have HZS : Hid ((32 :: z.data.toList).length ≤ 70368744177664) := Lib.hid (by rw [List.length_cons, size_list]; omega)
   clear hc hz hsn hzz hlt2 hz32
   go_wp2_with (go_at_call 70; refine (put_r _ _ HZL.out hs2 HZS.out hB2).mono ?_; rintro e w3 ⟨rfl, hs3⟩)
   go_roundg (n - i)
   case measure => omega
   case rel => exact ⟨i + 1, by omega, by omega, by go_num, by rw [HSN.out, nmsB_snoc, ← List.append_assoc]; exact hs3⟩
  ·
   have hi3 : decide (i < n) = false := decide_eq_false hlt
   obtain rfl : i = n := by omega
   rw [← HN.out, List.take_length] at hs2
   go_upto_region 30 with (go_at_call 70; refine (put_r _ [32, 46, 32] rfl hs2 (by decide) hB2).mono ?_; rintro e w3 ⟨rfl, hs3⟩; clear x0 x1 x2 x3 x4 x5; obtain ⟨x0, x1, x2, x3, x4, x5⟩ := (hs3.blk ps hgb).six)
   obtain ⟨y0, y1, y2, y3, y4, y5⟩ := hs3.six hkB h6
   go_wp2_with (go_at_call 42; refine (IH.out B b _ 1 true W _ R _ hs3 hB2 HI.out HR.out).mono ?_; rintro e w4 ⟨rfl, hs4⟩; clear x0 x1 x2 x3 x4 x5; obtain ⟨x0, x1, x2, x3, x4, x5⟩ := (hs4.blk ps hgb).six)
   go_end0
   exact ⟨rfl, HS.out.join hs4⟩
set_option maxHeartbeats 3200000 in
set_option maxRecDepth 100000 in
theorem rbody_22 (s : ByteArray) (ns : List ByteArray) (u : T) (hbk : sbulk (s :: ns) ≤ 1048576) (ih : FormR u) : BodyR (.node 22 ⟨#[]⟩ (s :: ns) false [] [u]) := by
 intro B b full least last W0 w R v hnp hs hB h hR
 have e : bodyB last (.node 22 ⟨#[]⟩ (s :: ns) false [] [u]) = (([97, 108, 108] ++ nmsB (s :: ns)) ++ [32, 46, 32]) ++ formB 1 last u := by
  unfold bodyB
  rw [P.body_all, P.bytes_cons, P.bytes_cons, bytes_names, P.bytes_cons, P.bytes_cons, ← nmsB_join]
  simp [P.itB, formB]
 rw [e, ← List.append_assoc, ← List.append_assoc, ← List.append_assoc]
 clear e
 have h := hs.In hR h
 rw [T.In] at h
 obtain ⟨A1, c1, A2, c2, A3, c3, rfl, hst, -, hc3, hk⟩ := h
 obtain ⟨kb, ko, rfl, hRk, hI⟩ := hk (by simp)
 rw [T.Ins] at hI
 obtain ⟨⟨v0, v1, v2, v3, v4, v5, h6, hI0⟩, -⟩ := hI
 have hkB := hR kb hRk
 clear hk
 obtain ⟨L, hL⟩ : ∃ x, P.level 22 = x := ⟨_, rfl⟩
 have d1 : decide ((L : Int) < (least : Int)) = false := by simp; have : ¬ (P.level 22 < least) := fun h => hnp (.inl h); rw [hL] at this; omega
 have d2 : decide (L < least) = false := by simp; have : ¬ (P.level 22 < least) := fun h => hnp (.inl h); rw [hL] at this; omega
 obtain rfl : last = true := by
  cases last
  · exact absurd (.inr ⟨rfl, rfl⟩) hnp
  · rfl
 have HLV := Lib.hid (level_k 22 L hL)
 clear hnp hL
 have IH := Lib.hid ih
 clear ih
 obtain ⟨l, hl⟩ : ∃ l, s :: ns = l := ⟨_, rfl⟩
 rw [hl] at hst hbk ⊢
 clear hl
 have hnl := sbulk_len l
 have HBK := Lib.hid (sbulk_get l)
 obtain ⟨n, hn⟩ : ∃ n, l.length = n := ⟨_, rfl⟩
 have hcap := hst.1
 rw [hn] at hnl hcap
 have HBK2 := Lib.hid hbk
 unfold tv
 rw [hn]
 have HN := Lib.hid hn
 clear hn hbk
 simp only [List.length_nil, List.length_cons, Nat.zero_add]
 go_enter Tryz.func42, Tryz.ntmps42
 go_upto_region 1 with (fail)
 obtain ⟨W, hW, ps, hbW⟩ := made_blk w #[.int .i64 22, .string ⟨#[]⟩, .slice A1 n c1, .bool false, .slice A2 0 c2, .slice (some ⟨kb, ko, none⟩) 1 c3] 28
 obtain ⟨g, hg⟩ : ∃ g, g = w.heap.size := ⟨_, rfl⟩
 have HS := Lib.hid (hs.below hB hbW)
 have hs0 := WS.of HS.out.wr
 have hB1 := Nat.le_trans hB hs.bl.size
 have hB2 : B ≤ W.heap.size := Nat.le_trans hB1 hbW.size
 have hgb : g ≠ b := by have := hs.lt; omega
 have hbB := hbW.mono hB1
 have HST := Lib.hid (StrL.under hst hR hbB)
 clear hst
 have HI := Lib.hid (hI0.under hR hbB)
 have h6 := h6.keep (fun p v hp hc => (hbB.cell (by rw [hp]; exact hkB)).trans hc)
 have HR := Lib.hid hR
 clear hI0 hR
 rw [← hW, ← hg]
 rw [← hg] at ps
 clear hW hbW hg hs hB hB1 hbB
 obtain ⟨x0, x1, x2, x3, x4, x5⟩ := ps.six
 go_upto_region 24 with (go_at_call 69; refine (HLV.out _).mono ?_; rintro e w5 ⟨rfl, hw5⟩; obtain rfl := hw5.symm)
 go_upto_region 25 with (go_at_call 70; refine (put_r _ [97, 108, 108] rfl hs0 (by decide) hB2).mono ?_; rintro e w1 ⟨rfl, hs1⟩; clear x0 x1 x2 x3 x4 x5; obtain ⟨x0, x1, x2, x3, x4, x5⟩ := (hs1.blk ps hgb).six)
 have hn2 := HBK2.out
 go_wp2_with fail
 go_loopg [9] (n + 1) (fun gk v9 wr => ∃ i : Nat, gk + i = n + 1 ∧ i ≤ n ∧ v9 = .int .i64 (i : Nat) ∧ WS B b (full ++ [97, 108, 108] ++ nmsB (l.take i)) W wr)
 case atStart => exact ⟨0, by omega, Nat.zero_le _, rfl, by simpa [nmsB] using hs1⟩
 case round =>
  clear x0 x1 x2 x3 x4 x5
  obtain ⟨i, hi, hin, rfl, hs2⟩ := hrel
  obtain ⟨x0, x1, x2, x3, x4, x5⟩ := (hs2.blk ps hgb).six
  by_cases hlt : i < n
  ·
   have hi3 : decide (i < n) = true := decide_eq_true hlt
   have hlt2 : i < l.length := by rw [HN.out]; exact hlt
   obtain ⟨nb, no, rfl, hnR, hc⟩ := HST.out.2 (by omega)
   have e0 := hs2.cell (HR.out nb hnR) (hc i hlt2)
   have hzz := HBK.out i hlt2
   have hsn := take_snoc l ⟨#[]⟩ i hlt2
   obtain ⟨z, hz⟩ : ∃ z, l.getD i ⟨#[]⟩ = z := ⟨_, rfl⟩
   rw [hz] at e0 hzz hsn
   have HSN := Lib.hid hsn
   have hi0 : (0 : Int) ≤ i := by omega
   have hi1 : (i : Int) < n := by omega
   have hz32 : (⟨#[32]⟩ : ByteArray).size = 1 := rfl
   have hcat : ¬ (9223372036854775807 < (⟨#[32]⟩ : ByteArray).size + z.size) := by omega
   have hcat2 : ¬ (9223372036854775807 < 1 + z.size) := by omega
   have HZL : Hid ((⟨#[32]⟩ ++ z : ByteArray).data.toList = 32 :: z.data.toList) := Lib.hid (by simp)
   have HZS : Hid ((32 :: z.data.toList).length ≤ 70368744177664) := Lib.hid (by rw [List.length_cons, size_list]; omega)
   clear hc hz hsn hzz hlt2 hz32
   go_wp2_with (go_at_call 70; refine (put_r _ _ HZL.out hs2 HZS.out hB2).mono ?_; rintro e w3 ⟨rfl, hs3⟩)
   go_roundg (n - i)
   case measure => omega
   case rel => exact ⟨i + 1, by omega, by omega, by go_num, by rw [HSN.out, nmsB_snoc, ← List.append_assoc]; exact hs3⟩
  ·
   have hi3 : decide (i < n) = false := decide_eq_false hlt
   obtain rfl : i = n := by omega
   rw [← HN.out, List.take_length] at hs2
   go_upto_region 30 with (go_at_call 70; refine (put_r _ [32, 46, 32] rfl hs2 (by decide) hB2).mono ?_; rintro e w3 ⟨rfl, hs3⟩; clear x0 x1 x2 x3 x4 x5; obtain ⟨x0, x1, x2, x3, x4, x5⟩ := (hs3.blk ps hgb).six)
   obtain ⟨y0, y1, y2, y3, y4, y5⟩ := hs3.six hkB h6
   go_wp2_with (go_at_call 42; refine (IH.out B b _ 1 true W _ R _ hs3 hB2 HI.out HR.out).mono ?_; rintro e w4 ⟨rfl, hs4⟩; clear x0 x1 x2 x3 x4 x5; obtain ⟨x0, x1, x2, x3, x4, x5⟩ := (hs4.blk ps hgb).six)
   go_end0
   exact ⟨rfl, HS.out.join hs4⟩
end
end Go.Proofs.YthiadenmljbdaaaGreatDoor
